/- Texts of this seat's own, merged: each begins with its own remark. -/
import Derived.Test.YtocjmbilepbokaaGreatM30
import Derived.Test.YtocjmbilepbokaaGreatM21
/- Walks of reference 10: sums, annihilators, maps, complements. -/
namespace Go.Proofs.YtocjmbilepbokaaGreat
open Go.Hp
variable {G : World} {U U' : UH} {M M' : MH}

/-- What the field f of a struct value is. -/
def fldV (T : TT) (s f : Nat) (v : Value) : Option Value :=
  match v, lkT T s with
  | .agg c, some ⟨.struct fs, _, _, _⟩ => match fs[f]? with
    | some (ft, off) => match lkT T ft with
      | some ⟨.struct _, n, _, _⟩ => some (.agg ((c.toList.drop off).take n).toArray)
      | some ⟨.other, _, _, _⟩ => none
      | some _ => nth c.toList off
      | none => none
    | none => none
  | _, _ => none

theorem fldV_run {s f : Nat} {v r : Value} {T : TT} {P : Program} (hS : Sym P T) (h : fldV T s f v = some r) (w : World) : (Instr.field s v f).run P w = .ok r w := by
  unfold fldV at h
  split at h
  · rename_i c fs _ _ _ hT
    obtain ⟨d, hd, hk⟩ := (hS.at hT).und
    obtain ⟨g, rfl, hg⟩ := kindOf_struct hk
    split at h
    · rename_i ft off hf
      rw [← hg] at hf
      simp only [List.getElem?_map, Array.getElem?_toList, Option.map_eq_some_iff] at hf
      obtain ⟨fd, hfd, hfe⟩ := hf
      simp only [Prod.mk.injEq] at hfe
      obtain ⟨rfl, rfl⟩ := hfe
      split at h
      · rename_i fs2 n _ _ hft
        simp only [Option.some.injEq] at h
        subst h
        have h1 := run_isAgg_struct (P := P) (hS.at hft) rfl w
        have h2 := (hS.at hft).run_size w
        have h3 : c.extract fd.offset (fd.offset + n) = ((c.toList.drop fd.offset).take n).toArray := by
          apply Array.toList_inj.1
          simp [Array.toList_extract, List.extract_eq_take_drop]
        simp [Instr.field, run_underlying' hd, hfd, part, h1, h2, asAgg, h3]
      · cases h
      · rename_i ti hn1 hn2 hft
        have h1 := run_isAgg_one (P := P) (hS.at hft) (by
          obtain ⟨k, sz, bt, z⟩ := ti
          cases k <;> first | rfl | (exact absurd rfl (hn1 _ _ _ _)) | (exact absurd rfl (hn2 _ _ _))) w
        rw [nth_eq] at h
        simp only [Array.getElem?_toList] at h
        simp [Instr.field, run_underlying' hd, hfd, part, h1, asAgg, h]
      · cases h
    · cases h
  · cases h

theorem w_fld {G : World} {U : UH} {M : MH} {K : Kont} {N : Nat} {L : List Oper} {l : List Ent} {E : Env} {f : Bool} {i : Nat} {o : Oper} {d s j : Nat} {x : Operand} {v r : Value} (h : SL Tryz.prog tys L K N G l ((d, r) :: E) U M) (ho : o.op = .field s x j := by exact rfl) (hx : ev E x = some v := by exact rfl) (hv : fldV tys s j v = some r := by exact rfl)
    (hk : yB f tys o = true := by exact rfl) (hd : o.dst = some d := by exact rfl) (hN : Nat.blt d N = true := by exact rfl) (hg : gok L E o.guard = some true := by exact rfl) : SL Tryz.prog tys L K N G ((f, i, o) :: l) E U M :=
  sl_y ⟨fun a w ha _ => by simp [execOp, ho, ha.eval hx, fldV_run sym hv w]⟩ hk hd hN hg h

/-- The rows of a grid are settled, the outer row stays the caller's own. -/
theorem ct_outer {r c fn : Nat} {A : Nat → Nat → Rat} {args : List Value} (h : Ct Tryz.prog fn args G U M fun v U' D => Go rO r c U' D v A ∧ ULe U U') :
    Ct Tryz.prog fn args G U M fun v U' D => Lo (Vr c) TRs 1 r U' D v A ∧ ULe U U' := by
  refine ⟨h.callable, fun w hw => (h.calls w hw).mono ?_⟩
  rintro e w' ⟨v, U1, D, h1, h2, h3, ⟨Do, F, p, cc, svs, rfl, rfl, h4, h5⟩, -⟩
  have h6 : Mem G U1 (F.flatten ++ (Do ++ M)) w' := h3.perm (by
    rw [List.append_assoc]
    exact List.perm_append_comm_assoc Do F.flatten M)
  obtain ⟨U2, h7, h8, h9⟩ := mem_settleAll h6
  exact ⟨_, U2, Do, h1, h2.trans h7, h8, ⟨p, cc, svs, rfl, h4, h5.sett h7 h9⟩, h2.trans h7⟩

theorem r10Sum_ct {ra rb n b : Nat} {va vb : Value} {A B : Nat → Nat → Rat} (ha : Sv (Wq b) ra n U va A) (hb : Sv (Wq b) rb n U vb B) (hb1 : 1 ≤ b) (hbb : b ≤ 40000) (hra : ra ≤ 6) (hrb : rb ≤ 6) (hn : n ≤ 6) :
    Ct Tryz.prog 39 [va, vb] G U M fun v U' D => ∃ (s : Nat) (S : Nat → Nat → Rat) (p : Nat → Nat), Sv Vq s n U' v S ∧ La.Ech s n S p ∧ La.Same s (ra + rb) n S (La.stack ra A B) ∧ D = [] := by
  have h1 : ra * n ≤ 6 * 6 := Nat.mul_le_mul hra hn
  have h2 : rb * n ≤ 6 * 6 := Nat.mul_le_mul hrb hn
  have sA : ∀ i j, i < ra → j < n → Szq (A i j) b := fun i j hi hj => ha.sz hb1 hi hj
  have sB : ∀ i j, i < rb → j < n → Szq (B i j) b := fun i j hi hj => hb.sz hb1 hi hj
  have sS : ∀ i j, i < ra + rb → j < n → Szq (La.stack ra A B i j) b := fun i j hi hj => by
    by_cases e : i < ra
    · rw [La.stack_lt e]; exact sA i j e hj
    · rw [show i = ra + (i - ra) by omega, La.stack_add]; exact sB _ j (by omega) hj
  obtain ⟨_, rfl, pa, ca, as1, rfl, -⟩ := id ha
  obtain ⟨_, rfl, pb, cb, bs, rfl, -⟩ := id hb
  refine ct_of_st Tryz.func39 rfl rfl rfl rfl ?_
  repeat (first | refine run_S ?_ | refine w_box (fun _ => ?_) | refine w_al (fun _ => ?_))
  rename_i b2 b3 b4
  refine st_drawTM [8, 9, 10] (.node 1 8 (.leaf [0, 1, 2, 3, 5, 6, 4, 7, 8, 9, 10]) (.node 0 8 (.leaf [0, 2, 3, 5, 6, 4, 7, 8, 1, 9, 10]) (.leaf [2, 3, 5, 6, 4, 7, 8, 0, 1, 9, 10]))) sym (by kernel_rfl) (by kernel_rfl) (slTM_node (slTM_leaf ?_) (slTM_node (slTM_leaf ?_) (slTM_leaf ?_)))
  all_goals
    repeat (first | refine run_S ?_ | refine w_box (fun _ => ?_) | refine w_al (fun _ => ?_))
    refine sl_call rfl rfl rfl rfl rfl rfl (fun _ => ct_outer (m9Rows_co (kept_m kept_w _ _ _ _ uc ha.vm) (by omega) (by omega) (by omega) (by omega))) ?_
    rintro v1 U1 D1 hU1 ⟨⟨p1, c1, s1, rfl, hr1, e1⟩, -⟩
    try rw [List.nil_append]
    refine sl_perm ?_ (perm3 (D := D1))
    repeat (first | refine run_S ?_ | refine w_box (fun _ => ?_) | refine w_al (fun _ => ?_))
    refine sl_call rfl rfl rfl rfl rfl rfl (fun _ => ct_setg (m9Rows_co (kept_m kept_w _ _ _ _ uc hb.vm) (by omega) (by omega) (by omega) (by omega))) ?_
    rintro v2 U2 D2 hU2 ⟨⟨p2, c2, s2, rfl, hc2, r2, e2⟩, rfl⟩
    try rw [List.nil_append]
    repeat (first | refine run_S ?_ | refine w_box (fun _ => ?_) | refine w_al (fun _ => ?_))
    refine w_app (X := (b4, .var (.agg #[.int .i64 0, .int .i64 0, .int .i64 0, .slice none 0 0]), TS) :: (b3, .var (.agg #[.int .i64 (n : Int), .int .i64 (rb : Int), .int .i64 (n : Int), .slice pb (rb * n) cb]), TS) :: (b2, .var (.agg #[.int .i64 (n : Int), .int .i64 (ra : Int), .int .i64 (n : Int), .slice pa (ra * n) ca]), TS) :: M) hr1 pms (r2.up uc (List.nil_sublist _)) (El.ones e2 fun _ _ h => one_r h) (fun p3 c3 D3 hr3 => ?_)
    refine sl_perm ?_ (perm3 (D := D3))
    have hst : El (Vr n) U2 (s1 ++ s2) (La.stack ra A B) := app_ok hr1.len.1 (El.congr (e1.up kept_r uc) hr1.len.1 fun k hk => (La.stack_lt hk).symm) fun k x hk => by rw [La.stack_add]; exact e2 k x hk
    repeat (first | refine run_S ?_ | refine w_box (fun _ => ?_) | refine w_al (fun _ => ?_))
    refine sl_call rfl rfl rfl rfl rfl rfl (fun _ => r10Of_ct (m := ra + rb) (k := b) (⟨p3, c3, s1 ++ s2, rfl, hr3.len.2.1, hr3.at sb, hst⟩ : Ls (Vr n) 1 (ra + rb) U2 _ _ _) sS hb1 hbb hn (by omega)) ?_
    rintro v4 U4 D4 hU4 ⟨s, S, q, hS, hE, hs, rfl⟩
    try rw [List.nil_append]
    obtain ⟨_, rfl, p5, c5, s5, rfl, -⟩ := id hS
    repeat (first | refine run_S ?_ | refine w_box (fun _ => ?_) | refine w_al (fun _ => ?_))
    refine sk_ret [] sym rfl (.cons (.cell 0 rfl rfl rfl) .nil) uc sb (.inl rfl) ?_
    exact ⟨s, S, q, hS, hE, hs, rfl⟩

theorem r10Ann_ct {r n b w : Nat} {v : Value} {B : Nat → Nat → Rat} {q : Nat → Nat} (h : Sv (Wq b) r n U v B) (hE : La.Ech r n B q) (hw : Hw w r n B) (hw2 : 6 * w + 1 ≤ 40000) (hb1 : 1 ≤ b) (hb : b ≤ 40000) (hn : n ≤ 6) :
    Ct Tryz.prog 44 [v] G U M fun v U' D => ∃ (s : Nat) (N : Nat → Nat → Rat) (p : Nat → Nat), Sv Vq s n U' v N ∧ La.KerOf n r s (La.tr B) N p ∧ D = [] := by
  have hr := Nat.le_trans hE.le_n hn
  have hrn : r * n ≤ 6 * 6 := Nat.mul_le_mul hr hn
  have hg := gro_six hb
  have hg2 := La.gro_le (k := b) hn
  obtain ⟨_, rfl, pb, cb, bs, rfl, -⟩ := id h
  refine ct_of_st Tryz.func44 rfl rfl rfl rfl ?_
  repeat (first | refine run_S ?_ | refine w_box (fun _ => ?_) | refine w_al (fun _ => ?_))
  refine sl_call rfl rfl rfl rfl rfl rfl (fun _ => ct_setm (m9Transpose_ct (kept_m kept_w _ _ _ _ uc h.vm) (by omega) (by omega) (by omega))) ?_
  rintro vh1 Uh1 D hU ⟨h1, rfl⟩
  rw [List.nil_append]
  repeat (first | refine run_S ?_ | refine w_box (fun _ => ?_) | refine w_al (fun _ => ?_))
  refine sl_call rfl rfl rfl rfl rfl rfl (fun _ => m9Kernel_ct (b := b) ((kept_m kept_q _ _ _ _ uc h1).w fun i j hi hj => h.sz hb1 hj hi) hb1 (by omega) (by omega) (by omega)) ?_
  rintro v2 U2 D2 hU2 ⟨s, N, p, hN, rfl, hk⟩
  try rw [List.nil_append]
  repeat (first | refine run_S ?_ | refine w_box (fun _ => ?_) | refine w_al (fun _ => ?_))
  have hgw := (hw.perp hE hk).hw hk.ech hn
  have hs6 := Nat.le_trans hk.ech.le_n hn
  refine sl_call rfl rfl rfl rfl rfl rfl (fun _ => r10Span_ct (b := 6 * w + 1) ((kept_m kept_q _ _ _ _ uc hN).w fun i j hi hj => hgw.szq (by omega) hi hj) (by omega) hw2 hn (by omega)) ?_
  rintro v3 U3 D3 hU3 ⟨s', R, p', hS, hE', hs, rfl⟩
  try rw [List.nil_append]
  obtain ⟨rfl, -, e3⟩ := hE'.unique hk.ech hs
  obtain ⟨a, rfl, p5, c5, s5, rfl, h5⟩ := id hS
  repeat (first | refine run_S ?_ | refine w_box (fun _ => ?_) | refine w_al (fun _ => ?_))
  refine sk_ret [] sym rfl (.cons (.cell 0 rfl rfl rfl) .nil) uc sb (.inl rfl) ?_
  exact ⟨s', N, p, ⟨_, rfl, Ls.congr ⟨p5, c5, s5, rfl, h5⟩ fun k hk => e3 _ _ (fl_lt hk).1 (fl_lt hk).2⟩, hk, rfl⟩

theorem r10Intersect_ct {ra rb n b w : Nat} {va vb : Value} {A B : Nat → Nat → Rat} {qa qb : Nat → Nat} (ha : Sv (Wq b) ra n U va A) (hb : Sv (Wq b) rb n U vb B) (hA : La.Ech ra n A qa) (hB : La.Ech rb n B qb) (wA : Hw w ra n A) (wB : Hw w rb n B) (hw : w ≤ 1000) (hb1 : 1 ≤ b) (hbb : b ≤ 40000) (hn : n ≤ 6) :
    Ct Tryz.prog 40 [va, vb] G U M fun v U' D => ∃ (i : Nat) (I : Nat → Nat → Rat) (p : Nat → Nat), Sv Vq i n U' v I ∧ La.Ech i n I p ∧ (∀ x, La.Sp i n I x ↔ La.Sp ra n A x ∧ La.Sp rb n B x) ∧ D = [] := by
  obtain ⟨_, rfl, pa, ca, as1, rfl, -⟩ := id ha
  obtain ⟨_, rfl, pb, cb, bs, rfl, -⟩ := id hb
  refine ct_of_st Tryz.func40 rfl rfl rfl rfl ?_
  repeat (first | refine run_S ?_ | refine w_box (fun _ => ?_) | refine w_al (fun _ => ?_))
  rename_i b2 b3 b4
  refine st_drawM [3, 4, 5, 6] [0, 2, 1, 3, 4, 5, 6] sym (by kernel_rfl) ?_
  repeat (first | refine run_S ?_ | refine w_box (fun _ => ?_) | refine w_al (fun _ => ?_))
  refine sl_call rfl rfl rfl rfl rfl rfl (fun _ => r10Ann_ct (kept_s kept_w _ _ _ _ uc ha) hA wA (by omega) hb1 hbb hn) ?_
  rintro v1 U1 D1 hU1 ⟨s1, N1, p1, h1, k1, rfl⟩
  try rw [List.nil_append]
  obtain ⟨_, rfl, p1', c1, t1, rfl, -⟩ := id h1
  repeat (first | refine run_S ?_ | refine w_box (fun _ => ?_) | refine w_al (fun _ => ?_))
  refine sl_call rfl rfl rfl rfl rfl rfl (fun _ => r10Ann_ct (kept_s kept_w _ _ _ _ uc hb) hB wB (by omega) hb1 hbb hn) ?_
  rintro v2 U2 D2 hU2 ⟨s2, N2, p2, h2, k2, rfl⟩
  try rw [List.nil_append]
  obtain ⟨_, rfl, p2', c2, t2, rfl, -⟩ := id h2
  have g1 := wA.perp hA k1
  have g2 := wB.perp hB k2
  have w1 := g1.hw k1.ech hn
  have w2 := g2.hw k2.ech hn
  repeat (first | refine run_S ?_ | refine w_box (fun _ => ?_) | refine w_al (fun _ => ?_))
  refine sl_call rfl rfl rfl rfl rfl rfl (fun _ => r10Sum_ct (b := 6 * w + 1) ((kept_s kept_q _ _ _ _ uc h1).w fun i j hi hj => w1.szq (by omega) hi hj) ((kept_s kept_q _ _ _ _ uc h2).w fun i j hi hj => w2.szq (by omega) hi hj) (by omega) (by omega) (Nat.le_trans k1.ech.le_n hn) (Nat.le_trans k2.ech.le_n hn) hn) ?_
  rintro v3 U3 D3 hU3 ⟨s3, S, p3, h3, e3, m3, rfl⟩
  try rw [List.nil_append]
  obtain ⟨_, rfl, p3', c3, t3, rfl, -⟩ := id h3
  have w3 := (g1.sum g2 m3).hw e3 hn
  repeat (first | refine run_S ?_ | refine w_box (fun _ => ?_) | refine w_al (fun _ => ?_))
  refine sl_call rfl rfl rfl rfl rfl rfl (fun _ => r10Ann_ct (b := 6 * w + 1) ((kept_s kept_q _ _ _ _ uc h3).w fun i j hi hj => w3.szq (by omega) hi hj) e3 w3 (by omega) (by omega) (by omega) hn) ?_
  rintro v4 U4 D4 hU4 ⟨s4, I, p4, h4, k4, rfl⟩
  try rw [List.nil_append]
  obtain ⟨_, rfl, p4', c4, t4, rfl, -⟩ := id h4
  repeat (first | refine run_S ?_ | refine w_box (fun _ => ?_) | refine w_al (fun _ => ?_))
  refine sk_ret [] sym rfl (.cons (.cell 0 rfl rfl rfl) .nil) uc sb (.inl rfl) ?_
  exact ⟨s4, I, p4, h4, k4.ech, La.sp_inter hA hB k1 k2 m3 k4, rfl⟩

theorem r10Image_ct {r n m b : Nat} {v vt : Value} {B T : Nat → Nat → Rat} (h : Sv (Wq b) r n U v B) (ht : Vm (Wq b) n m U vt T) (hb1 : 1 ≤ b) (hb : b ≤ 3000) (hr : r ≤ 6) (hn : n ≤ 6) (hm : m ≤ 6) :
    Ct Tryz.prog 47 [v, vt] G U M fun v U' D => ∃ (s : Nat) (P : Nat → Nat → Rat) (p : Nat → Nat), Sv Vq s m U' v P ∧ La.Ech s m P p ∧ La.Same s r m P (La.mm n B T) ∧ D = [] := by
  have hnm : n * (2 * b + 1) ≤ 6 * (2 * b + 1) := Nat.mul_le_mul_right _ hn
  have sM : ∀ i j, i < r → j < m → Szq (La.mm n B T i j) (1 + 6 * (2 * b + 1)) := fun i j hi hj => (szq_mm (fun k hk => h.sz hb1 hi hk) (fun k hk => ht.sz hb1 hk hj)).mono (by omega)
  obtain ⟨_, rfl, pb, cb, bs, rfl, -⟩ := id h
  obtain ⟨_, rfl, pt, ct1, ts, rfl, -⟩ := id ht
  refine ct_of_st Tryz.func47 rfl rfl rfl rfl ?_
  repeat (first | refine run_S ?_ | refine w_box (fun _ => ?_) | refine w_al (fun _ => ?_))
  refine sl_call rfl rfl rfl rfl rfl rfl (fun _ => m9Mul_ct (b := b) (kept_m kept_w _ _ _ _ uc h.vm) (kept_m kept_w _ _ _ _ uc ht) hb1 (by omega) (by omega) (by omega) (by omega) (by omega)) ?_
  rintro vh1 Uh1 D hU ⟨h1, rfl⟩
  rw [List.nil_append]
  repeat (first | refine run_S ?_ | refine w_box (fun _ => ?_) | refine w_al (fun _ => ?_))
  refine sl_call rfl rfl rfl rfl rfl rfl (fun _ => r10Span_ct (b := 1 + 6 * (2 * b + 1)) ((kept_m kept_q _ _ _ _ uc h1).w sM) (by omega) (by omega) hm (by omega)) ?_
  rintro v2 U2 D2 hU2 ⟨s, P, p, hS, hE, hs, rfl⟩
  try rw [List.nil_append]
  obtain ⟨_, rfl, p5, c5, s5, rfl, -⟩ := id hS
  repeat (first | refine run_S ?_ | refine w_box (fun _ => ?_) | refine w_al (fun _ => ?_))
  refine sk_ret [] sym rfl (.cons (.cell 0 rfl rfl rfl) .nil) uc sb (.inl rfl) ?_
  exact ⟨s, P, p, hS, hE, hs, rfl⟩

theorem r10Preimage_ct {r n m w v : Nat} {vs vt : Value} {B T : Nat → Nat → Rat} {q : Nat → Nat} (h : Sv (Wq 1) r m U vs B) (hE : La.Ech r m B q) (hw : Hw w r m B) (ht : Vm (Wq 1) n m U vt T) (hv : Hw v n m T) (hw2 : w ≤ 40) (hv2 : v ≤ 40) (hn : n ≤ 6) (hm : m ≤ 6) :
    Ct Tryz.prog 48 [vs, vt] G U M fun v U' D => ∃ (s c : Nat) (N Q : Nat → Nat → Rat) (p pn : Nat → Nat), Sv Vq s n U' v Q ∧ La.KerOf m r c (La.tr B) N pn ∧ La.KerOf n c s (La.mm m T (La.tr N)) Q p ∧ Gw 2000 s n Q ∧ D = [] := by
  obtain ⟨_, rfl, pb, cb, bs, rfl, -⟩ := id h
  obtain ⟨_, rfl, pt, ct1, ts, rfl, -⟩ := id ht
  refine ct_of_st Tryz.func48 rfl rfl rfl rfl ?_
  repeat (first | refine run_S ?_ | refine w_box (fun _ => ?_) | refine w_al (fun _ => ?_))
  rename_i b2 b3 b4
  refine st_drawM [5, 6, 7, 8] [0, 1, 2, 3, 4, 5, 6, 7, 8] sym (by kernel_rfl) ?_
  repeat (first | refine run_S ?_ | refine w_box (fun _ => ?_) | refine w_al (fun _ => ?_))
  refine sl_call rfl rfl rfl rfl rfl rfl (fun _ => r10Ann_ct (kept_s kept_w _ _ _ _ uc h) hE hw (by omega) (Nat.le_refl 1) (by omega) hm) ?_
  rintro v1 U1 D1 hU1 ⟨c, N, pn, h1, k1, rfl⟩
  try rw [List.nil_append]
  obtain ⟨_, rfl, p1, c1, t1, rfl, -⟩ := id h1
  have hc6 := Nat.le_trans k1.ech.le_n hm
  have w1 := ((hw.perp hE k1).hw k1.ech hm).mono (show 6 * w + 1 ≤ 241 by omega)
  have w2 := (hw_mm hv w1.tr hm).mono (show v + 241 + 1 ≤ 282 by omega)
  repeat (first | refine run_S ?_ | refine w_box (fun _ => ?_) | refine w_al (fun _ => ?_))
  refine w_fld ?_
  repeat (first | refine run_S ?_ | refine w_box (fun _ => ?_) | refine w_al (fun _ => ?_))
  refine sl_call rfl rfl rfl rfl rfl rfl (fun _ => ct_setm (m9Transpose_ct (b := 241) ((kept_m kept_q _ _ _ _ uc h1.vm).w fun i j hi hj => w1.szq (by omega) hi hj) (by omega) (by omega) (by omega))) ?_
  rintro vh2 Uh2 D hU ⟨h2, rfl⟩
  rw [List.nil_append]
  repeat (first | refine run_S ?_ | refine w_box (fun _ => ?_) | refine w_al (fun _ => ?_))
  refine sl_call rfl rfl rfl rfl rfl rfl (fun _ => m9Mul_ct (b := 241) (kept_m kept_w _ _ _ _ uc (ht.mono (by decide))) ((kept_m kept_q _ _ _ _ uc h2).w fun i j hi hj => w1.szq (by omega) hj hi) (by decide) (by omega) (by decide) (by omega) (by omega) (by omega)) ?_
  rintro vh3 Uh3 D hU ⟨h3, rfl⟩
  rw [List.nil_append]
  repeat (first | refine run_S ?_ | refine w_box (fun _ => ?_) | refine w_al (fun _ => ?_))
  have hg := gro_six (b := 282) (by decide)
  have hg2 := La.gro_le (k := 282) hn
  refine sl_call rfl rfl rfl rfl rfl rfl (fun _ => m9Kernel_ct (b := 282) ((kept_m kept_q _ _ _ _ uc h3).w fun i j hi hj => w2.szq (by omega) hi hj) (by decide) (by omega) (by omega) (by omega)) ?_
  rintro v4 U4 D4 hU4 ⟨s, Q, p, hQ, rfl, k4⟩
  try rw [List.nil_append]
  repeat (first | refine run_S ?_ | refine w_box (fun _ => ?_) | refine w_al (fun _ => ?_))
  have g4 := (ker_gen k4 w2 (by decide) hn).mono (show 6 * 282 + 1 ≤ 2000 by decide)
  have w4 := g4.hw k4.ech hn
  have hs6 := Nat.le_trans k4.ech.le_n hn
  refine sl_call rfl rfl rfl rfl rfl rfl (fun _ => r10Span_ct (b := 6 * 2000 + 1) ((kept_m kept_q _ _ _ _ uc hQ).w fun i j hi hj => w4.szq (by omega) hi hj) (by omega) (by omega) hn (by omega)) ?_
  rintro v5 U5 D5 hU5 ⟨s', R, p', hS, hE', hs, rfl⟩
  try rw [List.nil_append]
  obtain ⟨rfl, -, e3⟩ := hE'.unique k4.ech hs
  obtain ⟨a, rfl, p5, c5, s5, rfl, h5⟩ := id hS
  repeat (first | refine run_S ?_ | refine w_box (fun _ => ?_) | refine w_al (fun _ => ?_))
  refine sk_ret [] sym rfl (.cons (.cell 0 rfl rfl rfl) .nil) uc sb (.inl rfl) ?_
  exact ⟨s', c, N, Q, p, pn, ⟨_, rfl, Ls.congr ⟨p5, c5, s5, rfl, h5⟩ fun k hk => e3 _ _ (fl_lt hk).1 (fl_lt hk).2⟩, k1, k4, g4, rfl⟩

end Go.Proofs.YtocjmbilepbokaaGreat

/- Walks of reference 10: maps on invariant subspaces and on quotients, complements. -/
namespace Go.Proofs.YtocjmbilepbokaaGreat
open Go.Hp
variable {G : World} {U U' : UH} {M M' : MH}

theorem mm_szq {r n m b : Nat} {B T : Nat → Nat → Rat} (hB : ∀ i k, i < r → k < n → Szq (B i k) b) (hT : ∀ k j, k < n → j < m → Szq (T k j) b) (hn : n ≤ 6) : ∀ i j, i < r → j < m → Szq (La.mm n B T i j) (12 * b + 7) := fun i j hi hj => by
  have hnm : n * (2 * b + 1) ≤ 6 * (2 * b + 1) := Nat.mul_le_mul_right _ hn
  exact (szq_mm (fun k hk => hB i k hi hk) (fun k hk => hT k j hk hj)).mono (by omega)

theorem r10Restrict_ct {r n b : Nat} {v vt : Value} {B T : Nat → Nat → Rat} {q : Nat → Nat} (h : Sv (Wq b) r n U v B) (hE : La.Ech r n B q) (ht : Vm (Wq b) n n U vt T) (hb1 : 1 ≤ b) (hb : b ≤ 3000) (hn : n ≤ 6) :
    Ct Tryz.prog 51 [v, vt] G U M fun v U' D => ∃ (vm : Value) (s : Bool), v = .tuple #[vm, .bool s] ∧ (s = true ↔ La.Inv r n B T) ∧ (s = true → Vm Vq r r U' vm (La.rst n B T q)) ∧ (s = false → vm = .agg #[.int .i64 0, .int .i64 0, .slice none 0 0]) ∧ D = [] := by
  have h0 := h
  have hr := Nat.le_trans hE.le_n hn
  have hrn : r * n ≤ 6 * 6 := Nat.mul_le_mul hr hn
  have hrr : r * r ≤ 6 * 6 := Nat.mul_le_mul hr hr
  have hnm : n * (2 * b + 1) ≤ 6 * (2 * b + 1) := Nat.mul_le_mul_right _ hn
  have sM := mm_szq (B := B) (T := T) (fun i j hi hj => h.sz hb1 hi hj) (fun i j hi hj => ht.sz hb1 hi hj) hn
  obtain ⟨_, rfl, pb, cb, bs, rfl, -⟩ := id h
  obtain ⟨_, rfl, pt, ct1, ts, rfl, -⟩ := id ht
  refine ct_of_st Tryz.func51 rfl rfl rfl rfl ?_
  repeat (first | refine run_S ?_ | refine w_box (fun _ => ?_) | refine w_al (fun _ => ?_))
  rename_i b2 b3 b4
  refine sl_call rfl rfl rfl rfl rfl rfl (fun _ => m9Mul_ct (b := b) (kept_m kept_w _ _ _ _ uc h.vm) (kept_m kept_w _ _ _ _ uc ht) hb1 (by omega) (by omega) (by omega) (by omega) (by omega)) ?_
  rintro vh1 Uh1 D hU ⟨h1, rfl⟩
  rw [List.nil_append]
  repeat (first | refine run_S ?_ | refine w_box (fun _ => ?_) | refine w_al (fun _ => ?_))
  refine sl_call rfl rfl rfl rfl rfl rfl (fun _ => ct_setg (m9Rows_co (b := 12 * b + 7) ((kept_m kept_q _ _ _ _ uc h1).w sM) (by omega) (by omega) (by omega) (by omega))) ?_
  rintro v2 U2 D2 hU2 ⟨⟨p2, c2, s2, rfl, hc2, r2, e2⟩, rfl⟩
  try rw [List.nil_append]
  repeat (first | refine run_S ?_ | refine w_box (fun _ => ?_) | refine w_al (fun _ => ?_))
  try refine st_anti (M' := (b4, .var (.agg #[.int .i64 0, .int .i64 0, .slice none 0 0]), TM) :: (b3, .var (.agg #[.int .i64 (n : Int), .int .i64 (n : Int), .slice pt (n * n) ct1]), TM) :: (b2, .var (.agg #[.int .i64 (n : Int), .int .i64 (r : Int), .int .i64 (n : Int), .slice pb (r * n) cb]), TS) :: (([]) ++ M)) (ULe.refl _) sbk ?_
  refine st_loop (fun z E U' M' => ∃ (i : Nat) (P : Option Addr) (C : Nat) (vs : List Value) (D : MH), i ≤ r ∧ RowO TRs 1 D P i C vs ∧ El (Vr r) U' vs (La.rst n B T q) ∧ (∀ a, a < i → La.Sp r n B (La.mm n B T a)) ∧ E = [(8, .int .i64 (i : Int)), (6, .slice p2 r c2), (7, .slice P i C), (2, .pointer (some ⟨b2, 0, none⟩)), (4, .pointer (some ⟨b4, 0, none⟩))] ∧ ULe U2 U' ∧ M' = (b4, .var (.agg #[.int .i64 0, .int .i64 0, .slice none 0 0]), TM) :: (b3, .var (.agg #[.int .i64 (n : Int), .int .i64 (n : Int), .slice pt (n * n) ct1]), TM) :: (b2, .var (.agg #[.int .i64 (n : Int), .int .i64 (r : Int), .int .i64 (n : Int), .slice pb (r * n) cb]), TS) :: (D ++ M) ∧ z = r - i) (n0 := r - 0) (E0 := [(8, .int .i64 ((0 : Nat) : Int)), (6, .slice p2 r c2), (7, .slice none 0 0), (2, .pointer (some ⟨b2, 0, none⟩)), (4, .pointer (some ⟨b4, 0, none⟩))]) ⟨rfl, rfl, rfl, rfl, rfl, trivial⟩ ⟨0, none, 0, [], [], by omega, RowO.nil, El.nil, fun a ha => absurd ha (Nat.not_lt_zero a), rfl, uc, rfl, rfl⟩ ?_
  rintro z E U3 M' ⟨i, P, C, vs, D, hi, hrow, hel, hsp, rfl, hU3, rfl, rfl⟩
  try refine run_s ?_
  refine st_dec rfl (fun h => ?_) (fun h => ?_)
  · have hir : i < r := by omega
    have r22 := r2.up (U' := U3) (M' := (b4, .var (.agg #[.int .i64 0, .int .i64 0, .slice none 0 0]), TM) :: (b3, .var (.agg #[.int .i64 (n : Int), .int .i64 (n : Int), .slice pt (n * n) ct1]), TM) :: (b2, .var (.agg #[.int .i64 (n : Int), .int .i64 (r : Int), .int .i64 (n : Int), .slice pb (r * n) cb]), TS) :: (D ++ M)) uc (List.nil_sublist _)
    obtain ⟨v1, hv1⟩ := r22.at hir
    have e4 := (e2.up (U' := U3) kept_r uc) _ _ hv1
    obtain ⟨p4, c4, s4, rfl, -⟩ := id e4
    repeat (first | refine run_S ?_ | refine w_box (fun _ => ?_) | refine w_al (fun _ => ?_))
    refine st_draw [0, 1, 2, 3, 4, 5, 6, 7, 8, 9, 10] sym (by kernel_rfl) ?_
    repeat (first | refine run_S ?_ | refine w_box (fun _ => ?_) | refine w_al (fun _ => ?_))
    refine sl_y (yl_index sym rfl rfl rfl rfl rfl rfl (r22.lt hv1) (r22.get _ _ hv1).1) rfl rfl rfl rfl ?_; refine sl_y (yl_loadR1 sym rfl rfl rfl rfl r22 hv1 rfl) rfl rfl rfl rfl ?_
    repeat (first | refine run_S ?_ | refine w_box (fun _ => ?_) | refine w_al (fun _ => ?_))
    refine sl_call rfl rfl rfl rfl rfl rfl (fun _ => r10Coordinates_ct (bv := 12 * b + 7) (kept_s kept_w _ _ _ _ uc h0) hE (Ls.toW e4 fun j hj => sM i j hir hj) hb1 (by omega) (by omega) (by omega) hn) ?_
    rintro v3 U3 D3 hU3 ⟨vc, s, rfl, hs, hc, hno, rfl⟩
    try rw [List.nil_append]
    cases s
    · repeat (first | refine run_S ?_ | refine w_box (fun _ => ?_) | refine w_al (fun _ => ?_))
      exact sk_ret [] sym rfl (.cons (.cell 0 rfl rfl rfl) (.cons (.tmp rfl) .nil)) uc sb (.inl rfl) ⟨_, false, rfl, ⟨(fun h => by cases h), fun h => by have := hs.2 (h i hir); cases this⟩, (fun h => by cases h), (fun _ => rfl), rfl⟩
    · obtain ⟨p5, c5, s5, rfl, h5⟩ := hc rfl
      repeat (first | refine run_S ?_ | refine w_box (fun _ => ?_) | refine w_al (fun _ => ?_))
      refine w_push hrow (perm3 (D := _)).symm (fun bhr2 phr2 chr2 Dhr2 hr2 => ?_)
      refine sl_perm ?_ (perm3 (D := Dhr2))
      repeat (first | refine run_S ?_ | refine w_box (fun _ => ?_) | refine w_al (fun _ => ?_))
      exact sk_again (E' := [(8, .int .i64 ((i : Int) + 1)), (6, .slice p2 r c2), (7, .slice phr2 (i + 1) chr2), (2, .pointer (some ⟨b2, 0, none⟩)), (4, .pointer (some ⟨b4, 0, none⟩))]) (m := r - (i + 1)) ⟨rfl, rfl, rfl, rfl, rfl, trivial⟩ (by omega) ⟨i + 1, phr2, chr2, _, Dhr2, by omega, hr2, snoc_ok hrow.len.1 (hel.up kept_r uc) ⟨p5, c5, s5, rfl, h5⟩, (fun a ha => by
        rcases Nat.lt_or_eq_of_le (Nat.le_of_lt_succ ha) with h6 | h6
        · exact hsp a h6
        · rw [h6]; exact hs.1 rfl), rfl, uc, rfl, rfl⟩
  · have e : r = i := by omega
    subst e
    repeat (first | refine run_S ?_ | refine w_box (fun _ => ?_) | refine w_al (fun _ => ?_))
    refine sl_call rfl rfl rfl rfl rfl rfl (fun _ => ct_setm (m9Of_ct (b := 12 * b + 7) (Ls.toWr ((Lo.at ⟨P, C, vs, rfl, hrow, hel⟩ sb).up kept_r uc sb) (fun i j hi hj => sM i _ hi (hE.lt j hj))) (by omega) (by omega) (by omega) (by omega))) ?_
    rintro vh6 Uh6 D hU ⟨h6, rfl⟩
    rw [List.nil_append]
    repeat (first | refine run_S ?_ | refine w_box (fun _ => ?_) | refine w_al (fun _ => ?_))
    obtain ⟨_, rfl, p7, c7, s7, rfl, h7⟩ := id h6
    repeat (first | refine run_S ?_ | refine w_box (fun _ => ?_) | refine w_al (fun _ => ?_))
    exact sk_ret [] sym rfl (.cons (.cell 0 rfl rfl rfl) (.cons (.tmp rfl) .nil)) uc sb (.inl rfl) ⟨_, true, rfl, ⟨fun _ => hsp, fun _ => rfl⟩, (fun _ => h6), (fun h => by cases h), rfl⟩

theorem r10Free_co {r n b : Nat} {v : Value} {B : Nat → Nat → Rat} {q : Nat → Nat} (h : Sv (Wq b) r n U v B) (hE : La.Ech r n B q) (hb1 : 1 ≤ b) (hb : b ≤ 40000) (hn : n ≤ 6) :
    Ct Tryz.prog 89 [v] G U M fun v U' D => ∃ (m : Nat) (f : Nat → Nat), Lo Vi TInt 1 m U' D v f ∧ La.Cols r n m q f ∧ m ≤ n ∧ ULe U U' := by
  have hr := hE.le_n
  obtain ⟨_, rfl, pb, cb, bs, rfl, -⟩ := id h
  refine ct_of_st Tryz.func89 rfl rfl rfl rfl ?_
  repeat (first | refine run_S ?_ | refine w_box (fun _ => ?_) | refine w_al (fun _ => ?_))
  rename_i b1
  refine sl_call rfl rfl rfl rfl rfl rfl (fun _ => r10Pivots_ct (kept_s kept_w _ _ _ _ uc h) hE hb1 hb hn) ?_
  rintro v1 U1 D1 hU1 ⟨⟨pp, cp, ps, rfl, hcp, rp, ep⟩, rfl⟩
  try rw [List.nil_append]
  repeat (first | refine run_S ?_ | refine w_box (fun _ => ?_) | refine w_al (fun _ => ?_))
  try refine st_anti (M' := (b1, .var (.agg #[.int .i64 (n : Int), .int .i64 (r : Int), .int .i64 (n : Int), .slice pb (r * n) cb]), TS) :: (([]) ++ M)) (ULe.refl _) sbk ?_
  refine st_loop (fun z E U' M' => ∃ (j k m : Nat) (f : Nat → Nat) (P : Option Addr) (C : Nat) (vs : List Value) (D : MH), j ≤ n ∧ k ≤ r ∧ m ≤ j ∧ (∀ i, i < k → q i < j) ∧ (∀ i, k ≤ i → i < r → j ≤ q i) ∧ RowO TInt 1 D P m C vs ∧ El Vi U' vs f ∧ La.Cols r j m q f ∧ E = [(6, .int .i64 (j : Int)), (5, .int .i64 (k : Int)), (4, .slice P m C), (3, .slice pp r cp), (1, .pointer (some ⟨b1, 0, none⟩))] ∧ ULe U1 U' ∧ M' = (b1, .var (.agg #[.int .i64 (n : Int), .int .i64 (r : Int), .int .i64 (n : Int), .slice pb (r * n) cb]), TS) :: (D ++ M) ∧ z = n - j) (n0 := n - 0) (E0 := [(6, .int .i64 ((0 : Nat) : Int)), (5, .int .i64 ((0 : Nat) : Int)), (4, .slice none 0 0), (3, .slice pp r cp), (1, .pointer (some ⟨b1, 0, none⟩))]) ⟨rfl, rfl, rfl, rfl, rfl, trivial⟩ ⟨0, 0, 0, id, none, 0, [], [], by omega, by omega, by omega, (fun i hi => absurd hi (Nat.not_lt_zero i)), (fun i _ _ => Nat.zero_le _), RowO.nil, El.nil, La.Cols.start, rfl, uc, rfl, rfl⟩ ?_
  rintro z E U2 M' ⟨j, k, m, f, P, C, vs, D, hj, hk, hm, h1, h2, hrow, hel, hc, rfl, hU2, rfl, rfl⟩
  try refine run_s ?_
  refine st_dec rfl (fun h => ?_) (fun h => ?_)
  · have hjn : j < n := by omega
    have rp2 := rp.up (U' := U2) (M' := (b1, .var (.agg #[.int .i64 (n : Int), .int .i64 (r : Int), .int .i64 (n : Int), .slice pb (r * n) cb]), TS) :: (D ++ M)) uc (List.nil_sublist _)
    have fin : (∀ i, i < r → q i ≠ j) → ∀ i, k ≤ i → i < r → j + 1 ≤ q i := fun hne i hki hir => by
      have := h2 i hki hir
      have := hne i hir
      omega
    repeat (first | refine run_S ?_ | refine w_box (fun _ => ?_) | refine w_al (fun _ => ?_))
    refine sl_gdec rfl rfl (fun h3 => ?_) (fun h3 => ?_)
    · have hkr : k < r := by omega
      obtain ⟨v1, hv1⟩ := rp2.at hkr
      obtain rfl : v1 = .int .i64 (q k : Int) := ep _ _ hv1
      repeat (first | refine run_S ?_ | refine w_box (fun _ => ?_) | refine w_al (fun _ => ?_))
      refine sl_y (yl_index sym rfl rfl rfl rfl rfl rfl (rp2.lt hv1) (rp2.get _ _ hv1).1) rfl rfl rfl rfl ?_; refine sl_y (yl_loadR1 sym rfl rfl rfl rfl rp2 hv1 rfl) rfl rfl rfl rfl ?_
      repeat (first | refine run_S ?_ | refine w_box (fun _ => ?_) | refine w_al (fun _ => ?_))
      refine st_eq rfl (fun h4 => ?_) (fun h4 => ?_)
      · have h5 : q k = j := by omega
        repeat (first | refine run_S ?_ | refine w_box (fun _ => ?_) | refine w_al (fun _ => ?_))
        exact sk_again (E' := [(6, .int .i64 ((j : Int) + 1)), (5, .int .i64 ((k : Int) + 1)), (4, .slice P m C), (3, .slice pp r cp), (1, .pointer (some ⟨b1, 0, none⟩))]) (m := n - (j + 1)) ⟨rfl, rfl, rfl, rfl, rfl, trivial⟩ (by omega) ⟨j + 1, k + 1, m, f, P, C, vs, D, by omega, by omega, by omega, (fun i hi => by
          rcases Nat.lt_or_eq_of_le (Nat.le_of_lt_succ hi) with h6 | h6
          · have := h1 i h6; omega
          · rw [h6, h5]; omega), (fun i hi hir => by have := hE.mono k i (by omega) hir; omega), hrow, hel, hc.pass ⟨k, hkr, h5⟩, rfl, uc, rfl, rfl⟩
      · have hne : ∀ i, i < r → q i ≠ j := fun i hi e => by
          by_cases e1 : i < k
          · have := h1 i e1; omega
          · have h7 := h2 k (Nat.le_refl k) hkr
            rcases Nat.lt_or_eq_of_le (Nat.le_of_not_lt e1) with h8 | h8
            · have := hE.mono k i h8 hi; omega
            · subst h8; omega
        repeat (first | refine run_S ?_ | refine w_box (fun _ => ?_) | refine w_al (fun _ => ?_))
        refine w_push hrow (perm1 (D := _)).symm (fun bhr2 phr2 chr2 Dhr2 hr2 => ?_)
        refine sl_perm ?_ (perm1 (D := Dhr2))
        repeat (first | refine run_S ?_ | refine w_box (fun _ => ?_) | refine w_al (fun _ => ?_))
        exact sk_again (E' := [(6, .int .i64 ((j : Int) + 1)), (5, .int .i64 (k : Int)), (4, .slice phr2 (m + 1) chr2), (3, .slice pp r cp), (1, .pointer (some ⟨b1, 0, none⟩))]) (m := n - (j + 1)) ⟨rfl, rfl, rfl, rfl, rfl, trivial⟩ (by omega) ⟨j + 1, k, m + 1, fun a => if a < m then f a else j, phr2, chr2, _, Dhr2, by omega, by omega, by omega, (fun i hi => by have := h1 i hi; omega), fin hne, hr2, snoc_ok hrow.len.1 (El.congr hel hrow.len.1 fun k hk => (if_pos hk).symm) (by show _ = Value.int .i64 (((if m < m then f m else j) : Nat) : Int); rw [if_neg (Nat.lt_irrefl m)]), hc.more (fun ⟨i, hi, e⟩ => hne i hi e) (fun k hk => if_pos hk) (if_neg (Nat.lt_irrefl m)), rfl, uc, rfl, rfl⟩
    · have hne : ∀ i, i < r → q i ≠ j := fun i hi e => by
        have := h1 i (by omega); omega
      repeat (first | refine run_S ?_ | refine w_box (fun _ => ?_) | refine w_al (fun _ => ?_))
      refine w_push hrow (perm1 (D := _)).symm (fun bhr2 phr2 chr2 Dhr2 hr2 => ?_)
      refine sl_perm ?_ (perm1 (D := Dhr2))
      repeat (first | refine run_S ?_ | refine w_box (fun _ => ?_) | refine w_al (fun _ => ?_))
      exact sk_again (E' := [(6, .int .i64 ((j : Int) + 1)), (5, .int .i64 (k : Int)), (4, .slice phr2 (m + 1) chr2), (3, .slice pp r cp), (1, .pointer (some ⟨b1, 0, none⟩))]) (m := n - (j + 1)) ⟨rfl, rfl, rfl, rfl, rfl, trivial⟩ (by omega) ⟨j + 1, k, m + 1, fun a => if a < m then f a else j, phr2, chr2, _, Dhr2, by omega, by omega, by omega, (fun i hi => by have := h1 i hi; omega), fin hne, hr2, snoc_ok hrow.len.1 (El.congr hel hrow.len.1 fun k hk => (if_pos hk).symm) (by show _ = Value.int .i64 (((if m < m then f m else j) : Nat) : Int); rw [if_neg (Nat.lt_irrefl m)]), hc.more (fun ⟨i, hi, e⟩ => hne i hi e) (fun k hk => if_pos hk) (if_neg (Nat.lt_irrefl m)), rfl, uc, rfl, rfl⟩
  · have e : n = j := by omega
    subst e
    repeat (first | refine run_S ?_ | refine w_box (fun _ => ?_) | refine w_al (fun _ => ?_))
    exact sk_ret D sym rfl (.cons (.tmp rfl) .nil) uc sb (.inl rfl) ⟨m, f, ⟨P, C, vs, rfl, hrow, hel⟩, hc, hm, uc⟩

theorem r10Free_ct {r n b : Nat} {v : Value} {B : Nat → Nat → Rat} {q : Nat → Nat} (h : Sv (Wq b) r n U v B) (hE : La.Ech r n B q) (hb1 : 1 ≤ b) (hb : b ≤ 40000) (hn : n ≤ 6) :
    Ct Tryz.prog 89 [v] G U M fun v U' D => ∃ (m : Nat) (f : Nat → Nat), Ls Vi 1 m U' [] v f ∧ La.Cols r n m q f ∧ m ≤ n ∧ D = [] :=
  (r10Free_co h hE hb1 hb hn).settle.mono fun _ _ _ _ ⟨h1, _, _, ⟨m, f, h2, h3, h4, _⟩, _, h5, h6⟩ => ⟨m, f, h2.sett kept_i h5 h6, h3, h4, h1⟩

theorem r10Complement_ct {r n b : Nat} {v : Value} {B : Nat → Nat → Rat} {q : Nat → Nat} (h : Sv (Wq b) r n U v B) (hE : La.Ech r n B q) (hb1 : 1 ≤ b) (hb : b ≤ 40000) (hn : n ≤ 6) :
    Ct Tryz.prog 43 [v] G U M fun v U' D => ∃ (m : Nat) (f : Nat → Nat), Sv Vq m n U' v (fun k => La.idm (f k)) ∧ La.Cols r n m q f ∧ m ≤ n ∧ D = [] := by
  obtain ⟨_, rfl, pb, cb, bs, rfl, -⟩ := id h
  refine ct_of_st Tryz.func43 rfl rfl rfl rfl ?_
  repeat (first | refine run_S ?_ | refine w_box (fun _ => ?_) | refine w_al (fun _ => ?_))
  rename_i b1 b2
  refine sl_call rfl rfl rfl rfl rfl rfl (fun _ => r10Free_ct (kept_s kept_w _ _ _ _ uc h) hE hb1 hb hn) ?_
  rintro v1 U1 D1 hU1 ⟨m, f, ⟨pf, cf, fs, rfl, hcf, rf, ef⟩, hc, hm, rfl⟩
  try rw [List.nil_append]
  repeat (first | refine run_S ?_ | refine w_box (fun _ => ?_) | refine w_al (fun _ => ?_))
  try refine st_anti (M' := (b2, .var (.agg #[.int .i64 0, .int .i64 0, .int .i64 0, .slice none 0 0]), TS) :: (b1, .var (.agg #[.int .i64 (n : Int), .int .i64 (r : Int), .int .i64 (n : Int), .slice pb (r * n) cb]), TS) :: (([]) ++ M)) (ULe.refl _) sbk ?_
  refine st_loop (fun z E U' M' => ∃ (i : Nat) (P : Option Addr) (C : Nat) (vs : List Value) (D : MH), i ≤ m ∧ RowO TRs 1 D P i C vs ∧ El (Vr n) U' vs (fun k => La.idm (f k)) ∧ E = [(5, .int .i64 (i : Int)), (4, .slice pf m cf), (3, .slice P i C), (1, .pointer (some ⟨b1, 0, none⟩)), (2, .pointer (some ⟨b2, 0, none⟩))] ∧ ULe U1 U' ∧ M' = (b2, .var (.agg #[.int .i64 0, .int .i64 0, .int .i64 0, .slice none 0 0]), TS) :: (b1, .var (.agg #[.int .i64 (n : Int), .int .i64 (r : Int), .int .i64 (n : Int), .slice pb (r * n) cb]), TS) :: (D ++ M) ∧ z = m - i) (n0 := m - 0) (E0 := [(5, .int .i64 ((0 : Nat) : Int)), (4, .slice pf m cf), (3, .slice none 0 0), (1, .pointer (some ⟨b1, 0, none⟩)), (2, .pointer (some ⟨b2, 0, none⟩))]) ⟨rfl, rfl, rfl, rfl, rfl, trivial⟩ ⟨0, none, 0, [], [], by omega, RowO.nil, El.nil, rfl, uc, rfl, rfl⟩ ?_
  rintro z E U2 M' ⟨i, P, C, vs, D, hi, hrow, hel, rfl, hU2, rfl, rfl⟩
  try refine run_s ?_
  refine st_dec rfl (fun h => ?_) (fun h => ?_)
  · have him : i < m := by omega
    have rf2 := rf.up (U' := U2) (M' := (b2, .var (.agg #[.int .i64 0, .int .i64 0, .int .i64 0, .slice none 0 0]), TS) :: (b1, .var (.agg #[.int .i64 (n : Int), .int .i64 (r : Int), .int .i64 (n : Int), .slice pb (r * n) cb]), TS) :: (D ++ M)) uc (List.nil_sublist _)
    obtain ⟨v1, hv1⟩ := rf2.at him
    obtain rfl : v1 = .int .i64 (f i : Int) := ef _ _ hv1
    repeat (first | refine run_S ?_ | refine w_box (fun _ => ?_) | refine w_al (fun _ => ?_))
    refine st_drawM [7, 8, 9, 10] [0, 1, 2, 3, 4, 5, 6, 7, 8, 9, 10] sym (by kernel_rfl) ?_
    repeat (first | refine run_S ?_ | refine w_box (fun _ => ?_) | refine w_al (fun _ => ?_))
    refine sl_y (yl_index sym rfl rfl rfl rfl rfl rfl (rf2.lt hv1) (rf2.get _ _ hv1).1) rfl rfl rfl rfl ?_; refine sl_y (yl_loadR1 sym rfl rfl rfl rfl rf2 hv1 rfl) rfl rfl rfl rfl ?_
    repeat (first | refine run_S ?_ | refine w_box (fun _ => ?_) | refine w_al (fun _ => ?_))
    refine sl_call rfl rfl rfl rfl rfl rfl (fun _ => (m9Unit_ct (n := n) (i := f i) (by omega) (hc.lt i him)).setl kept_q) ?_
    rintro v3 U3 D3 hU3 ⟨⟨p, c, us, rfl, hc3, hr3, he3⟩, rfl⟩
    try rw [List.nil_append]
    repeat (first | refine run_S ?_ | refine w_box (fun _ => ?_) | refine w_al (fun _ => ?_))
    refine w_push hrow (perm2 (D := _)).symm (fun bhr2 phr2 chr2 Dhr2 hr2 => ?_)
    refine sl_perm ?_ (perm2 (D := Dhr2))
    repeat (first | refine run_S ?_ | refine w_box (fun _ => ?_) | refine w_al (fun _ => ?_))
    exact sk_again (E' := [(5, .int .i64 ((i : Int) + 1)), (4, .slice pf m cf), (3, .slice phr2 (i + 1) chr2), (1, .pointer (some ⟨b1, 0, none⟩)), (2, .pointer (some ⟨b2, 0, none⟩))]) (m := m - (i + 1)) ⟨rfl, rfl, rfl, rfl, rfl, trivial⟩ (by omega) ⟨i + 1, phr2, chr2, _, Dhr2, by omega, hr2, snoc_ok hrow.len.1 (hel.up kept_r uc) (Ls.congr ⟨p, c, us, rfl, hc3, hr3, he3⟩ fun k _ => by unfold La.idm; by_cases e : k = f i <;> simp [e, Ne.symm]), rfl, uc, rfl, rfl⟩
  · have e : m = i := by omega
    subst e
    repeat (first | refine run_S ?_ | refine w_box (fun _ => ?_) | refine w_al (fun _ => ?_))
    refine sl_call rfl rfl rfl rfl rfl rfl (fun _ => r10Of_ct (k := 1) ((Lo.at ⟨P, C, vs, rfl, hrow, hel⟩ sb : Ls (Vr n) 1 m U2 _ _ _).up kept_r uc sb) (fun i j _ _ => by show Szq (if f i = j then (1 : Rat) else 0) 1; split; exact szq_int1; exact szq_int0) (Nat.le_refl 1) (by decide) hn (by omega)) ?_
    rintro v4 U4 D4 hU4 ⟨s, S, p, hS, hE', hs, rfl⟩
    try rw [List.nil_append]
    obtain ⟨rfl, -, e3⟩ := hE'.unique (La.cols_ech hc) hs
    obtain ⟨a, rfl, p5, c5, s5, rfl, h5⟩ := id hS
    repeat (first | refine run_S ?_ | refine w_box (fun _ => ?_) | refine w_al (fun _ => ?_))
    refine sk_ret [] sym rfl (.cons (.cell 0 rfl rfl rfl) .nil) uc sb (.inl rfl) ?_
    exact ⟨s, f, ⟨_, rfl, Ls.congr ⟨p5, c5, s5, rfl, h5⟩ fun k hk => e3 _ _ (fl_lt hk).1 (fl_lt hk).2⟩, hc, hm, rfl⟩

set_option maxHeartbeats 1000000 in
theorem r10Quotient_ct {r n b : Nat} {v vt : Value} {B T : Nat → Nat → Rat} {q : Nat → Nat} (h : Sv (Wq b) r n U v B) (hE : La.Ech r n B q) (ht : Vm (Wq b) n n U vt T) (hb1 : 1 ≤ b) (hb : b ≤ 3000) (hn : n ≤ 6) :
    Ct Tryz.prog 52 [v, vt] G U M fun v U' D => ∃ (vm : Value) (s : Bool), v = .tuple #[vm, .bool s] ∧ (s = true ↔ La.Inv r n B T) ∧ (s = true → ∃ (m : Nat) (f : Nat → Nat), La.Cols r n m q f ∧ m ≤ n ∧ Vm Vq m m U' vm (La.quo r B T q f)) ∧ (s = false → vm = .agg #[.int .i64 0, .int .i64 0, .slice none 0 0]) ∧ D = [] := by
  have hr := Nat.le_trans hE.le_n hn
  have hrn : r * n ≤ 6 * 6 := Nat.mul_le_mul hr hn
  have hnn : n * n ≤ 6 * 6 := Nat.mul_le_mul hn hn
  have hnb : n * (2 * b + 1) ≤ 6 * (2 * b + 1) := Nat.mul_le_mul_right _ hn
  have sB : ∀ i j, i < r → j < n → Szq (B i j) b := fun i j hi hj => h.sz hb1 hi hj
  have sT : ∀ i j, i < n → j < n → Szq (T i j) b := fun i j hi hj => ht.sz hb1 hi hj
  have sP : ∀ i, i < n → ∀ k, k ≤ r → ∀ j, j < n → Szq (La.prj k B q (T i) j) (14 * b + 8) := fun i hi k hk j hj => (szq_prj (bv := b) (b := b) (by omega) (fun i hi => hE.lt i (by omega)) (fun i j hi hj => sB i j (by omega) hj) (sT i · hi) hj).mono (by omega)
  obtain ⟨_, rfl, pb, cb, bs, rfl, -⟩ := id h
  obtain ⟨_, rfl, pt, ct1, ts, rfl, -⟩ := id ht
  refine ct_of_st Tryz.func52 rfl rfl rfl rfl ?_
  repeat (first | refine run_S ?_ | refine w_box (fun _ => ?_) | refine w_al (fun _ => ?_))
  rename_i b2 b3 b4
  refine sl_call rfl rfl rfl rfl rfl rfl (fun _ => r10Restrict_ct (kept_s kept_w _ _ _ _ uc h) hE (kept_m kept_w _ _ _ _ uc ht) hb1 hb hn) ?_
  rintro v1 U1 D1 hU1 ⟨vm, s, rfl, hs, hy, hno, rfl⟩
  try rw [List.nil_append]
  cases s
  · obtain rfl := hno rfl
    repeat (first | refine run_S ?_ | refine w_box (fun _ => ?_) | refine w_al (fun _ => ?_))
    rename_i b6
    exact sk_ret [] sym rfl (.cons (.cell 1 rfl rfl rfl) (.cons (.tmp rfl) .nil)) uc sb (.inl rfl) ⟨_, false, rfl, hs, (fun h => by cases h), (fun _ => rfl), rfl⟩
  obtain ⟨_, rfl, pmm, cmm, msm, rfl, -⟩ := hy rfl
  have hI := hs.1 rfl
  clear hno hy
  repeat (first | refine run_S ?_ | refine w_box (fun _ => ?_) | refine w_al (fun _ => ?_))
  rename_i b6
  refine st_anti (M' := (b4, .var (.agg #[.int .i64 0, .int .i64 0, .slice none 0 0]), TM) :: (b3, .var (.agg #[.int .i64 (n : Int), .int .i64 (n : Int), .slice pt (n * n) ct1]), TM) :: (b2, .var (.agg #[.int .i64 (n : Int), .int .i64 (r : Int), .int .i64 (n : Int), .slice pb (r * n) cb]), TS) :: M) (ULe.refl _) (List.sublist_cons_self ..) ?_
  refine st_draw [0, 2, 1, 3, 4, 5] sym (by kernel_rfl) ?_
  repeat (first | refine run_S ?_ | refine w_box (fun _ => ?_) | refine w_al (fun _ => ?_))
  refine sl_call rfl rfl rfl rfl rfl rfl (fun _ => r10Free_ct (kept_s kept_w _ _ _ _ uc h) hE hb1 (by omega) hn) ?_
  rintro v2 U2 D2 hU2 ⟨m, f, ⟨pf, cf, fs, rfl, hcf, rf, ef⟩, hc, hm, rfl⟩
  try rw [List.nil_append]
  repeat (first | refine run_S ?_ | refine w_box (fun _ => ?_) | refine w_al (fun _ => ?_))
  refine sl_call rfl rfl rfl rfl rfl rfl (fun _ => r10Pivots_ct (kept_s kept_w _ _ _ _ uc h) hE hb1 (by omega) hn) ?_
  rintro v3 U3 D3 hU3 ⟨⟨pp, cp, ps, rfl, hcp, rp, ep⟩, rfl⟩
  try rw [List.nil_append]
  repeat (first | refine run_S ?_ | refine w_box (fun _ => ?_) | refine w_al (fun _ => ?_))
  refine sl_call rfl rfl rfl rfl rfl rfl (fun _ => ct_setg (m9Rows_co (kept_m kept_w _ _ _ _ uc h.vm) (by omega) (by omega) (by omega) (by omega))) ?_
  rintro v4 U4 D4 hU4 ⟨⟨p2, c2, s2, rfl, hc2, r2, e2⟩, rfl⟩
  try rw [List.nil_append]
  repeat (first | refine run_S ?_ | refine w_box (fun _ => ?_) | refine w_al (fun _ => ?_))
  try refine st_anti (M' := (b4, .var (.agg #[.int .i64 0, .int .i64 0, .slice none 0 0]), TM) :: (b3, .var (.agg #[.int .i64 (n : Int), .int .i64 (n : Int), .slice pt (n * n) ct1]), TM) :: (b2, .var (.agg #[.int .i64 (n : Int), .int .i64 (r : Int), .int .i64 (n : Int), .slice pb (r * n) cb]), TS) :: (([]) ++ M)) (ULe.refl _) sbk ?_
  refine st_loop (fun z E U' M' => ∃ (i : Nat) (P : Option Addr) (C : Nat) (vs : List Value) (D : MH), i ≤ m ∧ RowO TRs 1 D P i C vs ∧ El (Vr m) U' vs (La.quo r B T q f) ∧ E = [(12, .int .i64 (i : Int)), (8, .slice pf m cf), (9, .slice pp r cp), (10, .slice p2 r c2), (11, .slice P i C), (2, .pointer (some ⟨b2, 0, none⟩)), (3, .pointer (some ⟨b3, 0, none⟩)), (4, .pointer (some ⟨b4, 0, none⟩))] ∧ ULe U4 U' ∧ M' = (b4, .var (.agg #[.int .i64 0, .int .i64 0, .slice none 0 0]), TM) :: (b3, .var (.agg #[.int .i64 (n : Int), .int .i64 (n : Int), .slice pt (n * n) ct1]), TM) :: (b2, .var (.agg #[.int .i64 (n : Int), .int .i64 (r : Int), .int .i64 (n : Int), .slice pb (r * n) cb]), TS) :: (D ++ M) ∧ z = m - i) (n0 := m - 0) (E0 := [(12, .int .i64 ((0 : Nat) : Int)), (8, .slice pf m cf), (9, .slice pp r cp), (10, .slice p2 r c2), (11, .slice none 0 0), (2, .pointer (some ⟨b2, 0, none⟩)), (3, .pointer (some ⟨b3, 0, none⟩)), (4, .pointer (some ⟨b4, 0, none⟩))]) ⟨rfl, rfl, rfl, rfl, rfl, rfl, rfl, rfl, trivial⟩ ⟨0, none, 0, [], [], by omega, RowO.nil, El.nil, rfl, uc, rfl, rfl⟩ ?_
  rintro z E U5 M' ⟨i, P, C, vs, D, hi, hrow, hel, rfl, hU5, rfl, rfl⟩
  try refine run_s ?_
  refine st_dec rfl (fun h => ?_) (fun h => ?_)
  · have him : i < m := by omega
    have hfn := hc.lt i him
    have rf2 := rf.up (U' := U5) (M' := (b4, .var (.agg #[.int .i64 0, .int .i64 0, .slice none 0 0]), TM) :: (b3, .var (.agg #[.int .i64 (n : Int), .int .i64 (n : Int), .slice pt (n * n) ct1]), TM) :: (b2, .var (.agg #[.int .i64 (n : Int), .int .i64 (r : Int), .int .i64 (n : Int), .slice pb (r * n) cb]), TS) :: (D ++ M)) uc (List.nil_sublist _)
    obtain ⟨v1, hv1⟩ := rf2.at him
    obtain rfl : v1 = .int .i64 (f i : Int) := ef _ _ hv1
    repeat (first | refine run_S ?_ | refine w_box (fun _ => ?_) | refine w_al (fun _ => ?_))
    refine st_draw [0, 1, 2, 3, 4, 5, 7, 6, 8, 9] sym (by kernel_rfl) ?_
    repeat (first | refine run_S ?_ | refine w_box (fun _ => ?_) | refine w_al (fun _ => ?_))
    refine sl_y (yl_index sym rfl rfl rfl rfl rfl rfl (rf2.lt hv1) (rf2.get _ _ hv1).1) rfl rfl rfl rfl ?_; refine sl_y (yl_loadR1 sym rfl rfl rfl rfl rf2 hv1 rfl) rfl rfl rfl rfl ?_
    repeat (first | refine run_S ?_ | refine w_box (fun _ => ?_) | refine w_al (fun _ => ?_))
    refine sl_call rfl rfl rfl rfl rfl rfl (fun _ => (m9Unit_ct (n := n) (i := f i) (by omega) hfn).setl kept_q) ?_
    rintro v6 U6 D6 hU6 ⟨h6, rfl⟩
    try rw [List.nil_append]
    obtain ⟨p6, c6, s6, rfl, -⟩ := id h6
    repeat (first | refine run_S ?_ | refine w_box (fun _ => ?_) | refine w_al (fun _ => ?_))
    refine sl_call rfl rfl rfl rfl rfl rfl (fun _ => (m9Apply_ct (b := b) (Ls.toW (Ls.up (M' := _) h6 kept_q uc (List.nil_sublist _)) fun j _ => by split; exact szq_int1.mono hb1; exact szq_int0.mono hb1) (kept_m kept_w _ _ _ _ uc ht) hb1 (by omega) (by omega) (by omega) (by omega) (by omega)).setl kept_q) ?_
    rintro v7 U7 D7 hU7 ⟨h7, rfl⟩
    try rw [List.nil_append]
    have h7a : Ls Vq 4 n U7 [] v7 (La.prj 0 B q (T (f i))) := Ls.congr h7 fun j _ => by
      rw [La.prj_zero_eq, La.sm_one (f i) hfn fun k _ hne => by rw [if_neg hne, La.zero_mul], if_pos rfl, La.one_mul]
    obtain ⟨p7, c7, s7, rfl, -⟩ := id h7a
    repeat (first | refine run_S ?_ | refine w_box (fun _ => ?_) | refine w_al (fun _ => ?_))
    try refine st_anti (M' := (b4, .var (.agg #[.int .i64 0, .int .i64 0, .slice none 0 0]), TM) :: (b3, .var (.agg #[.int .i64 (n : Int), .int .i64 (n : Int), .slice pt (n * n) ct1]), TM) :: (b2, .var (.agg #[.int .i64 (n : Int), .int .i64 (r : Int), .int .i64 (n : Int), .slice pb (r * n) cb]), TS) :: (D ++ M)) (ULe.refl _) sbk ?_
    refine st_loop (fun z E U' M' => ∃ (k : Nat) (Q : Option Addr) (CQ : Nat), k ≤ r ∧ Ls Vq 4 n U' [] (.slice Q n CQ) (La.prj k B q (T (f i))) ∧ E = [(14, .int .i64 (k : Int)), (13, .slice Q n CQ), (12, .int .i64 (i : Int)), (8, .slice pf m cf), (9, .slice pp r cp), (10, .slice p2 r c2), (11, .slice P i C), (2, .pointer (some ⟨b2, 0, none⟩)), (3, .pointer (some ⟨b3, 0, none⟩)), (4, .pointer (some ⟨b4, 0, none⟩))] ∧ ULe U7 U' ∧ M' = (b4, .var (.agg #[.int .i64 0, .int .i64 0, .slice none 0 0]), TM) :: (b3, .var (.agg #[.int .i64 (n : Int), .int .i64 (n : Int), .slice pt (n * n) ct1]), TM) :: (b2, .var (.agg #[.int .i64 (n : Int), .int .i64 (r : Int), .int .i64 (n : Int), .slice pb (r * n) cb]), TS) :: (D ++ M) ∧ z = r - k) (n0 := r - 0) (E0 := [(14, .int .i64 ((0 : Nat) : Int)), (13, .slice p7 n c7), (12, .int .i64 (i : Int)), (8, .slice pf m cf), (9, .slice pp r cp), (10, .slice p2 r c2), (11, .slice P i C), (2, .pointer (some ⟨b2, 0, none⟩)), (3, .pointer (some ⟨b3, 0, none⟩)), (4, .pointer (some ⟨b4, 0, none⟩))]) ⟨rfl, rfl, rfl, rfl, rfl, rfl, rfl, rfl, rfl, rfl, trivial⟩ ⟨0, p7, c7, by omega, h7a, rfl, uc, rfl, rfl⟩ ?_
    rintro z E U8 M' ⟨k, Q, CQ, hk, hQ, rfl, hU8, rfl, rfl⟩
    try refine run_s ?_
    refine st_dec rfl (fun h => ?_) (fun h => ?_)
    · have hkr : k < r := by omega
      have hqn := hE.lt k hkr
      obtain ⟨Q', CQ', qs, hQe, hcQ, rQ, eQ⟩ := id hQ
      obtain ⟨rfl, -, rfl⟩ := Value.slice.inj hQe
      have rp2 := rp.up (U' := U8) (M' := (b4, .var (.agg #[.int .i64 0, .int .i64 0, .slice none 0 0]), TM) :: (b3, .var (.agg #[.int .i64 (n : Int), .int .i64 (n : Int), .slice pt (n * n) ct1]), TM) :: (b2, .var (.agg #[.int .i64 (n : Int), .int .i64 (r : Int), .int .i64 (n : Int), .slice pb (r * n) cb]), TS) :: (D ++ M)) uc (List.nil_sublist _)
      obtain ⟨v2, hv2⟩ := rp2.at hkr
      obtain rfl : v2 = .int .i64 (q k : Int) := ep _ _ hv2
      have rQ2 := rQ.up (U' := U8) (M' := (b4, .var (.agg #[.int .i64 0, .int .i64 0, .slice none 0 0]), TM) :: (b3, .var (.agg #[.int .i64 (n : Int), .int .i64 (n : Int), .slice pt (n * n) ct1]), TM) :: (b2, .var (.agg #[.int .i64 (n : Int), .int .i64 (r : Int), .int .i64 (n : Int), .slice pb (r * n) cb]), TS) :: (D ++ M)) uc (List.nil_sublist _)
      obtain ⟨v3, hv3⟩ := rQ2.at hqn
      obtain ⟨x3, rfl, hx3⟩ := eQ _ _ hv3
      have r22 := r2.up (U' := U8) (M' := (b4, .var (.agg #[.int .i64 0, .int .i64 0, .slice none 0 0]), TM) :: (b3, .var (.agg #[.int .i64 (n : Int), .int .i64 (n : Int), .slice pt (n * n) ct1]), TM) :: (b2, .var (.agg #[.int .i64 (n : Int), .int .i64 (r : Int), .int .i64 (n : Int), .slice pb (r * n) cb]), TS) :: (D ++ M)) uc (List.nil_sublist _)
      obtain ⟨v4, hv4⟩ := r22.at hkr
      have e4 := (e2.up (U' := U8) kept_r uc) _ _ hv4
      obtain ⟨p4, c4, s4, rfl, -⟩ := id e4
      repeat (first | refine run_S ?_ | refine w_box (fun _ => ?_) | refine w_al (fun _ => ?_))
      refine st_draw [0, 1, 2, 3, 4, 5, 6, 7, 9, 10, 11, 12, 8, 13, 14] sym (by kernel_rfl) ?_
      repeat (first | refine run_S ?_ | refine w_box (fun _ => ?_) | refine w_al (fun _ => ?_))
      refine sl_y (yl_index sym rfl rfl rfl rfl rfl rfl (rp2.lt hv2) (rp2.get _ _ hv2).1) rfl rfl rfl rfl ?_; refine sl_y (yl_loadR1 sym rfl rfl rfl rfl rp2 hv2 rfl) rfl rfl rfl rfl ?_
      repeat (first | refine run_S ?_ | refine w_box (fun _ => ?_) | refine w_al (fun _ => ?_))
      refine sl_y (yl_index sym rfl rfl rfl rfl rfl rfl (rQ2.lt hv3) (rQ2.get _ _ hv3).1) rfl rfl rfl rfl ?_; refine sl_y (yl_loadRs sym rfl rfl rfl rfl rfl rQ2 hv3) rfl rfl rfl rfl ?_
      repeat (first | refine run_S ?_ | refine w_box (fun _ => ?_) | refine w_al (fun _ => ?_))
      refine sl_y (yl_index sym rfl rfl rfl rfl rfl rfl (r22.lt hv4) (r22.get _ _ hv4).1) rfl rfl rfl rfl ?_; refine sl_y (yl_loadR1 sym rfl rfl rfl rfl r22 hv4 rfl) rfl rfl rfl rfl ?_
      repeat (first | refine run_S ?_ | refine w_box (fun _ => ?_) | refine w_al (fun _ => ?_))
      refine sl_call rfl rfl rfl rfl rfl rfl (fun _ => rqNeg_ct (hx3.rep.up uc sb) (hx3.le (sP _ hfn k (by omega) _ hqn) (by omega))) ?_
      rintro v Uh9 D hU ⟨xh9, rfl, h9, rfl⟩
      repeat (first | refine run_S ?_ | refine w_box (fun _ => ?_) | refine w_al (fun _ => ?_))
      refine sl_call rfl rfl rfl rfl rfl rfl (fun _ => (m9Combine_ct (b := 14 * b + 8) (Ls.up (M' := _) (Ls.toW hQ (sP _ hfn k (by omega))) kept_w uc (List.nil_sublist _)) (h9.rep.up uc sb) (h9.le (sP _ hfn k (by omega) _ hqn).neg (by omega)) (Ls.up (M' := _) (Ls.toW e4 fun j hj => (sB k j hkr hj).mono (by omega)) kept_w uc (List.nil_sublist _)) (by omega) (by omega) (by omega)).setl kept_q) ?_
      rintro v10 U10 D10 hU10 ⟨h10, rfl⟩
      try rw [List.nil_append]
      obtain ⟨p10, c10, s10, rfl, -⟩ := id h10
      repeat (first | refine run_S ?_ | refine w_box (fun _ => ?_) | refine w_al (fun _ => ?_))
      have h11 : Ls Vq 4 n U10 [] (.slice p10 n c10) (La.prj (k + 1) B q (T (f i))) := Ls.congr h10 fun j _ => by
        rw [La.prj_succ, La.prj_at hE hkr (Nat.le_refl k)]
      exact sk_again (E' := [(14, .int .i64 ((k : Int) + 1)), (13, .slice p10 n c10), (12, .int .i64 (i : Int)), (8, .slice pf m cf), (9, .slice pp r cp), (10, .slice p2 r c2), (11, .slice P i C), (2, .pointer (some ⟨b2, 0, none⟩)), (3, .pointer (some ⟨b3, 0, none⟩)), (4, .pointer (some ⟨b4, 0, none⟩))]) (m := r - (k + 1)) ⟨rfl, rfl, rfl, rfl, rfl, rfl, rfl, rfl, rfl, rfl, trivial⟩ (by omega) ⟨k + 1, p10, c10, by omega, h11, rfl, uc, rfl, rfl⟩
    · have e : r = k := by omega
      subst e
      obtain ⟨Q', CQ', qs, hQe, hcQ, rQ, eQ⟩ := id hQ
      obtain ⟨rfl, -, rfl⟩ := Value.slice.inj hQe
      repeat (first | refine run_S ?_ | refine w_box (fun _ => ?_) | refine w_al (fun _ => ?_))
      try refine st_anti (M' := (b4, .var (.agg #[.int .i64 0, .int .i64 0, .slice none 0 0]), TM) :: (b3, .var (.agg #[.int .i64 (n : Int), .int .i64 (n : Int), .slice pt (n * n) ct1]), TM) :: (b2, .var (.agg #[.int .i64 (n : Int), .int .i64 (r : Int), .int .i64 (n : Int), .slice pb (r * n) cb]), TS) :: (([]) ++ (D ++ M))) (ULe.refl _) sbk ?_
      refine st_loop (fun z E U' M' => ∃ (d : Nat) (R : Option Addr) (CR : Nat) (ws : List Value) (Dr : MH), d ≤ m ∧ RowO TR 4 Dr R d CR ws ∧ El Vq U' ws (La.quo r B T q f i) ∧ E = [(16, .int .i64 (d : Int)), (15, .slice R d CR), (13, .slice Q n CQ), (12, .int .i64 (i : Int)), (8, .slice pf m cf), (9, .slice pp r cp), (10, .slice p2 r c2), (11, .slice P i C), (2, .pointer (some ⟨b2, 0, none⟩)), (3, .pointer (some ⟨b3, 0, none⟩)), (4, .pointer (some ⟨b4, 0, none⟩))] ∧ ULe U8 U' ∧ M' = (b4, .var (.agg #[.int .i64 0, .int .i64 0, .slice none 0 0]), TM) :: (b3, .var (.agg #[.int .i64 (n : Int), .int .i64 (n : Int), .slice pt (n * n) ct1]), TM) :: (b2, .var (.agg #[.int .i64 (n : Int), .int .i64 (r : Int), .int .i64 (n : Int), .slice pb (r * n) cb]), TS) :: (Dr ++ (D ++ M)) ∧ z = m - d) (n0 := m - 0) (E0 := [(16, .int .i64 ((0 : Nat) : Int)), (15, .slice none 0 0), (13, .slice Q n CQ), (12, .int .i64 (i : Int)), (8, .slice pf m cf), (9, .slice pp r cp), (10, .slice p2 r c2), (11, .slice P i C), (2, .pointer (some ⟨b2, 0, none⟩)), (3, .pointer (some ⟨b3, 0, none⟩)), (4, .pointer (some ⟨b4, 0, none⟩))]) ⟨rfl, rfl, rfl, rfl, rfl, rfl, rfl, rfl, rfl, rfl, rfl, trivial⟩ ⟨0, none, 0, [], [], by omega, RowO.nil, El.nil, rfl, uc, rfl, rfl⟩ ?_
      rintro z E U9 M' ⟨d, R, CR, ws, Dr, hd, hrr, her, rfl, hU9, rfl, rfl⟩
      try refine run_s ?_
      refine st_dec rfl (fun h => ?_) (fun h => ?_)
      · have hdm : d < m := by omega
        have hfd := hc.lt d hdm
        have rf3 := rf.up (U' := U9) (M' := (b4, .var (.agg #[.int .i64 0, .int .i64 0, .slice none 0 0]), TM) :: (b3, .var (.agg #[.int .i64 (n : Int), .int .i64 (n : Int), .slice pt (n * n) ct1]), TM) :: (b2, .var (.agg #[.int .i64 (n : Int), .int .i64 (r : Int), .int .i64 (n : Int), .slice pb (r * n) cb]), TS) :: (Dr ++ (D ++ M))) uc (List.nil_sublist _)
        obtain ⟨v2, hv2⟩ := rf3.at hdm
        obtain rfl : v2 = .int .i64 (f d : Int) := ef _ _ hv2
        have rQ2 := rQ.up (U' := U9) (M' := (b4, .var (.agg #[.int .i64 0, .int .i64 0, .slice none 0 0]), TM) :: (b3, .var (.agg #[.int .i64 (n : Int), .int .i64 (n : Int), .slice pt (n * n) ct1]), TM) :: (b2, .var (.agg #[.int .i64 (n : Int), .int .i64 (r : Int), .int .i64 (n : Int), .slice pb (r * n) cb]), TS) :: (Dr ++ (D ++ M))) uc (List.nil_sublist _)
        obtain ⟨v3, hv3⟩ := rQ2.at hfd
        obtain ⟨x3, rfl, hx3⟩ := (eQ.up (U' := U9) kept_q uc) _ _ hv3
        repeat (first | refine run_S ?_ | refine w_box (fun _ => ?_) | refine w_al (fun _ => ?_))
        refine sl_y (yl_index sym rfl rfl rfl rfl rfl rfl (rf3.lt hv2) (rf3.get _ _ hv2).1) rfl rfl rfl rfl ?_; refine sl_y (yl_loadR1 sym rfl rfl rfl rfl rf3 hv2 rfl) rfl rfl rfl rfl ?_
        repeat (first | refine run_S ?_ | refine w_box (fun _ => ?_) | refine w_al (fun _ => ?_))
        refine sl_y (yl_index sym rfl rfl rfl rfl rfl rfl (rQ2.lt hv3) (rQ2.get _ _ hv3).1) rfl rfl rfl rfl ?_; refine sl_y (yl_loadRs sym rfl rfl rfl rfl rfl rQ2 hv3) rfl rfl rfl rfl ?_
        repeat (first | refine run_S ?_ | refine w_box (fun _ => ?_) | refine w_al (fun _ => ?_))
        refine w_push hrr (X := (b4, .var (.agg #[.int .i64 0, .int .i64 0, .slice none 0 0]), TM) :: (b3, .var (.agg #[.int .i64 (n : Int), .int .i64 (n : Int), .slice pt (n * n) ct1]), TM) :: (b2, .var (.agg #[.int .i64 (n : Int), .int .i64 (r : Int), .int .i64 (n : Int), .slice pb (r * n) cb]), TS) :: (D ++ M)) pms (fun bq R2 CR2 Dr2 hrr2 => ?_)
        refine sl_perm (M' := (b4, .var (.agg #[.int .i64 0, .int .i64 0, .slice none 0 0]), TM) :: (b3, .var (.agg #[.int .i64 (n : Int), .int .i64 (n : Int), .slice pt (n * n) ct1]), TM) :: (b2, .var (.agg #[.int .i64 (n : Int), .int .i64 (r : Int), .int .i64 (n : Int), .slice pb (r * n) cb]), TS) :: (Dr2 ++ (D ++ M))) ?_ pms
        repeat (first | refine run_S ?_ | refine w_box (fun _ => ?_) | refine w_al (fun _ => ?_))
        exact sk_again (E' := [(16, .int .i64 ((d : Int) + 1)), (15, .slice R2 (d + 1) CR2), (13, .slice Q n CQ), (12, .int .i64 (i : Int)), (8, .slice pf m cf), (9, .slice pp r cp), (10, .slice p2 r c2), (11, .slice P i C), (2, .pointer (some ⟨b2, 0, none⟩)), (3, .pointer (some ⟨b3, 0, none⟩)), (4, .pointer (some ⟨b4, 0, none⟩))]) (m := m - (d + 1)) ⟨rfl, rfl, rfl, rfl, rfl, rfl, rfl, rfl, rfl, rfl, rfl, trivial⟩ (by omega) ⟨d + 1, R2, CR2, _, Dr2, by omega, hrr2, snoc_ok hrr.len.1 her ⟨x3, rfl, hx3⟩, rfl, uc, rfl, rfl⟩
      · have e : m = d := by omega
        subst e
        refine st_perm (M' := Dr ++ ((b4, .var (.agg #[.int .i64 0, .int .i64 0, .slice none 0 0]), TM) :: (b3, .var (.agg #[.int .i64 (n : Int), .int .i64 (n : Int), .slice pt (n * n) ct1]), TM) :: (b2, .var (.agg #[.int .i64 (n : Int), .int .i64 (r : Int), .int .i64 (n : Int), .slice pb (r * n) cb]), TS) :: (D ++ M))) pms ?_
        refine st_settleAll fun U10 hU10 hs10 => ?_
        have hrow3 : Vr m U10 (.slice R m CR) (La.quo r B T q f i) := ⟨R, CR, ws, rfl, hrr.len.2.1, hrr.sett hs10, her.up kept_q uc⟩
        repeat (first | refine run_S ?_ | refine w_box (fun _ => ?_) | refine w_al (fun _ => ?_))
        refine w_push hrow (perm3 (D := _)).symm (fun bhr2 phr2 chr2 Dhr2 hr2 => ?_)
        refine sl_perm ?_ (perm3 (D := Dhr2))
        repeat (first | refine run_S ?_ | refine w_box (fun _ => ?_) | refine w_al (fun _ => ?_))
        exact sk_again (E' := [(12, .int .i64 ((i : Int) + 1)), (8, .slice pf m cf), (9, .slice pp r cp), (10, .slice p2 r c2), (11, .slice phr2 (i + 1) chr2), (2, .pointer (some ⟨b2, 0, none⟩)), (3, .pointer (some ⟨b3, 0, none⟩)), (4, .pointer (some ⟨b4, 0, none⟩))]) (m := m - (i + 1)) ⟨rfl, rfl, rfl, rfl, rfl, rfl, rfl, rfl, trivial⟩ (by omega) ⟨i + 1, phr2, chr2, _, Dhr2, by omega, hr2, snoc_ok hrow.len.1 (hel.up kept_r uc) hrow3, rfl, uc, rfl, rfl⟩
  · have e : m = i := by omega
    subst e
    have hmm2 : m * m ≤ 6 * 6 := Nat.mul_le_mul (by omega) (by omega)
    repeat (first | refine run_S ?_ | refine w_box (fun _ => ?_) | refine w_al (fun _ => ?_))
    refine sl_call rfl rfl rfl rfl rfl rfl (fun _ => ct_setm (m9Of_ct (b := 14 * b + 8) (Ls.toWr ((Lo.at ⟨P, C, vs, rfl, hrow, hel⟩ sb).up kept_r uc sb) (fun i j hi hj => sP _ (hc.lt i hi) r (Nat.le_refl r) _ (hc.lt j hj))) (by omega) (by omega) (by omega) (by omega))) ?_
    rintro vh11 Uh11 D hU ⟨h11, rfl⟩
    rw [List.nil_append]
    repeat (first | refine run_S ?_ | refine w_box (fun _ => ?_) | refine w_al (fun _ => ?_))
    obtain ⟨_, rfl, p7, c7, s7, rfl, h7⟩ := id h11
    repeat (first | refine run_S ?_ | refine w_box (fun _ => ?_) | refine w_al (fun _ => ?_))
    exact sk_ret [] sym rfl (.cons (.cell 0 rfl rfl rfl) (.cons (.tmp rfl) .nil)) uc sb (.inl rfl) ⟨_, true, rfl, hs, (fun _ => ⟨m, f, hc, hm, h11⟩), (fun h => by cases h), rfl⟩

end Go.Proofs.YtocjmbilepbokaaGreat

/- Walks of subspace: coordinates, elements, pairs, inclusion. -/
namespace Go.Proofs.YtocjmbilepbokaaGreat
open Go.Hp
variable {G : World} {U U' : UH} {M M' : MH}

theorem sCoordinates_ct {r n b bv : Nat} {v vv : Value} {B : Nat → Nat → Rat} {q : Nat → Nat} {f : Nat → Rat} (h : Sv (Wq b) r n U v B) (hE : La.Ech r n B q) (hv : Ls (Wq bv) 4 n U [] vv f) (hb1 : 1 ≤ b) (hb : b ≤ 40000) (hbv1 : 1 ≤ bv) (hbv : bv ≤ 100000000) (hn : n ≤ 6) :
    Ct Tryz.prog 20 [v, vv] G U M fun v U' D => ∃ (vc : Value) (e : Int), v = .tuple #[vc, .int .i64 e] ∧ (e = 0 ∨ e = 12) ∧ (e = 0 ↔ La.Sp r n B f) ∧ (e = 0 → Ls Vq 4 r U' [] vc (fun i => f (q i))) ∧ (e = 12 → vc = .slice none 0 0) ∧ D = [] := by
  have hr : r ≤ 6 := Nat.le_trans hE.le_n hn
  have sB : ∀ i j, i < r → j < n → Szq (B i j) b := fun i j hi hj => h.sz hb1 hi hj
  have sf : ∀ j, j < n → Szq (f j) bv := fun j hj => hv.sz hbv1 hj
  have sP : ∀ j, j < n → Szq (La.prj r B q f j) (8 * bv + 6 * b + 8) := fun j hj => szq_prj hr (fun i hi => hE.lt i hi) sB sf hj
  have h0 := h
  obtain ⟨_, rfl, pb, cb, bs, rfl, -⟩ := h
  obtain ⟨pv, cv, vs0, rfl, -⟩ := id hv
  refine ct_of_st Tryz.func20 rfl rfl rfl rfl ?_
  repeat (first | refine run_S ?_ | refine w_box (fun _ => ?_) | refine w_al (fun _ => ?_))
  rename_i b2
  refine sl_call rfl rfl rfl rfl rfl rfl (fun _ => sCheck_ok (kept_s kept_w _ _ _ _ uc h0) hE hb1 hb hn) ?_
  rintro v1 U1 D1 hU1 ⟨rfl, rfl⟩
  try rw [List.nil_append]
  repeat (first | refine run_S ?_ | refine w_box (fun _ => ?_) | refine w_al (fun _ => ?_))
  refine st_ne rfl (fun h => absurd rfl h) (fun _ => ?_)
  repeat (first | refine run_S ?_ | refine w_box (fun _ => ?_) | refine w_al (fun _ => ?_))
  refine st_ne rfl (fun h => absurd rfl h) (fun _ => ?_)
  repeat (first | refine run_S ?_ | refine w_box (fun _ => ?_) | refine w_al (fun _ => ?_))
  refine sl_call rfl rfl rfl rfl rfl rfl (fun _ => ssplit_co (kept_s kept_w _ _ _ _ uc h0) hE (Ls.up hv kept_w uc (List.Sublist.refl _)) hb1 (by omega) hbv1 (by omega) hn) ?_
  rintro v2 U2 D2 hU2 ⟨vc, vr, Dc, Dr, rfl, rfl, ⟨Pc, Cc, cs, rfl, hrc, hec⟩, ⟨P, C, vs, rfl, hrow, hel⟩, -⟩
  try rw [List.nil_append]
  refine sl_perm (M' := (b2, .var (.agg #[.int .i64 (n : Int), .int .i64 (r : Int), .int .i64 (n : Int), .slice pb (r * n) cb]), TS) :: (Dr ++ (Dc ++ M))) ?_ pms
  repeat (first | refine run_S ?_ | refine w_box (fun _ => ?_) | refine w_al (fun _ => ?_))
  refine sl_call rfl rfl rfl rfl rfl rfl (fun _ => szero_ct (⟨P, C, vs, rfl, hrow.len.2.1, hrow.at sb, hel⟩ : Ls Vq 4 n U2 _ _ _) (fun j hj => (sP j hj).mono (by omega)) (by omega)) ?_
  rintro v3 U3 D3 hU3 ⟨s, rfl, hs, rfl, rfl⟩
  try rw [List.nil_append]
  cases s
  · repeat (first | refine run_S ?_ | refine w_box (fun _ => ?_) | refine w_al (fun _ => ?_))
    exact sk_ret [] sym rfl (.cons (.tmp rfl) (.cons (.tmp rfl) .nil)) uc sb (.inl rfl) ⟨_, 12, rfl, .inr rfl, ⟨(fun h => by cases h), fun h3 => by have := hs.2 ((La.prj_sp hE).2 h3); cases this⟩, (fun h => by cases h), (fun _ => rfl), rfl⟩
  have hsp := (La.prj_sp hE).1 (hs.1 rfl)
  clear hs hrow hel
  repeat (first | refine run_S ?_ | refine w_box (fun _ => ?_) | refine w_al (fun _ => ?_))
  try refine st_anti (M' := (b2, .var (.agg #[.int .i64 (n : Int), .int .i64 (r : Int), .int .i64 (n : Int), .slice pb (r * n) cb]), TS) :: (Dc ++ M)) (ULe.refl _) sbk ?_
  refine st_loop (fun z E U' M' => ∃ (i : Nat) (cs : List Value) (Dc : MH), i ≤ r ∧ RowO TR 4 Dc Pc r Cc cs ∧ El Vq U' cs (fun i => f (q i)) ∧ E = [(32, .int .i64 (i : Int)), (31, .int .i64 (r : Int)), (30, .slice Pc r Cc), (7, .slice Pc r Cc)] ∧ ULe U2 U' ∧ M' = (b2, .var (.agg #[.int .i64 (n : Int), .int .i64 (r : Int), .int .i64 (n : Int), .slice pb (r * n) cb]), TS) :: (Dc ++ M) ∧ z = r - i) (n0 := r - 0) (E0 := [(32, .int .i64 ((0 : Nat) : Int)), (31, .int .i64 (r : Int)), (30, .slice Pc r Cc), (7, .slice Pc r Cc)]) ⟨rfl, rfl, rfl, rfl, trivial⟩ ⟨0, cs, Dc, by omega, hrc, hec, rfl, uc, rfl, rfl⟩ ?_
  clear hrc hec
  rintro z E U3 M' ⟨i, cs, Dc, hi, hrc, hec, rfl, hU3, rfl, rfl⟩
  try refine run_s ?_
  refine st_dec rfl (fun h => ?_) (fun h => ?_)
  · have hir : i < r := by omega
    have rA := hrc.at (U := U3) (M := (b2, .var (.agg #[.int .i64 (n : Int), .int .i64 (r : Int), .int .i64 (n : Int), .slice pb (r * n) cb]), TS) :: (Dc ++ M)) sb
    obtain ⟨v2, hv2⟩ := rA.at hir
    obtain ⟨x2, rfl, hx2⟩ := hec _ _ hv2
    repeat (first | refine run_S ?_ | refine w_box (fun _ => ?_) | refine w_al (fun _ => ?_))
    refine sl_y (yl_index sym rfl rfl rfl rfl rfl rfl (rA.lt hv2) (rA.get _ _ hv2).1) rfl rfl rfl rfl ?_; refine sl_y (yl_loadRs sym rfl rfl rfl rfl rfl rA hv2) rfl rfl rfl rfl ?_
    repeat (first | refine run_S ?_ | refine w_box (fun _ => ?_) | refine w_al (fun _ => ?_))
    rename_i b10
    refine sl_call rfl rfl rfl rfl rfl rfl (fun _ => (qNormal_ct (hx2.rep.up uc sb) (hx2.le (sf _ (hE.lt i hir)) (by omega))).settle) ?_
    rintro v Uh6 D hU ⟨rfl, _, _, ⟨xh6, rfl, h6, -⟩, -, -, hs⟩
    replace h6 := h6.sett hs
    clear hs
    repeat (first | refine run_S ?_ | refine w_box (fun _ => ?_) | refine w_al (fun _ => ?_))
    refine w_addr (j := i) hir (hrc.some (by omega)) ?_
    refine w_storeR (v := xh6.v) (X := (b10, .var x2.v, TR) :: (b2, .var (.agg #[.int .i64 (n : Int), .int .i64 (r : Int), .int .i64 (n : Int), .slice pb (r * n) cb]), TS) :: M) hrc pms hir (fun D3 hr3 => ?_)
    refine sl_perm (M' := (b10, .var x2.v, TR) :: (b2, .var (.agg #[.int .i64 (n : Int), .int .i64 (r : Int), .int .i64 (n : Int), .slice pb (r * n) cb]), TS) :: (D3 ++ M)) ?_ pms
    repeat (first | refine run_S ?_ | refine w_box (fun _ => ?_) | refine w_al (fun _ => ?_))
    refine sk_anti (M' := (b2, .var (.agg #[.int .i64 (n : Int), .int .i64 (r : Int), .int .i64 (n : Int), .slice pb (r * n) cb]), TS) :: (D3 ++ M)) (ULe.refl _) (List.sublist_cons_self ..) ?_
    exact sk_again (E' := [(32, .int .i64 ((i : Int) + 1)), (31, .int .i64 (r : Int)), (30, .slice Pc r Cc), (7, .slice Pc r Cc)]) (m := r - (i + 1)) ⟨rfl, rfl, rfl, rfl, trivial⟩ (by omega) ⟨i + 1, _, D3, by omega, hr3, set_ok (fun a x ha hne => (hec.up (U' := Uh6) kept_q uc) a x ha) ⟨xh6, rfl, h6⟩, rfl, uc, rfl, rfl⟩
  · have e : r = i := by omega
    subst e
    refine st_perm (M' := Dc ++ ((b2, .var (.agg #[.int .i64 (n : Int), .int .i64 (r : Int), .int .i64 (n : Int), .slice pb (r * n) cb]), TS) :: M)) pms ?_
    refine st_settleAll fun U5 hU5 hs5 => ?_
    have hco : Ls Vq 4 r U5 [] (.slice Pc r Cc) (fun i => f (q i)) := ⟨Pc, Cc, cs, rfl, hrc.len.2.1, hrc.sett hs5, hec.up kept_q uc⟩
    repeat (first | refine run_S ?_ | refine w_box (fun _ => ?_) | refine w_al (fun _ => ?_))
    exact sk_ret [] sym rfl (.cons (.tmp rfl) (.cons (.tmp rfl) .nil)) uc sb (.inl rfl) ⟨_, 0, rfl, .inl rfl, ⟨fun _ => hsp, fun _ => rfl⟩, (fun _ => hco), (fun h => by cases h), rfl⟩

theorem sContains_ok {r n b bv : Nat} {v vv : Value} {B : Nat → Nat → Rat} {q : Nat → Nat} {f : Nat → Rat} (h : Sv (Wq b) r n U v B) (hE : La.Ech r n B q) (hv : Ls (Wq bv) 4 n U [] vv f) (hb1 : 1 ≤ b) (hb : b ≤ 40000) (hbv1 : 1 ≤ bv) (hbv : bv ≤ 100000000) (hn : n ≤ 6) :
    Ct Tryz.prog 19 [v, vv] G U M fun v _ D => ∃ s : Bool, v = .tuple #[.bool s, .int .i64 0] ∧ (s = true ↔ La.Sp r n B f) ∧ D = [] := by
  obtain ⟨_, rfl, pb, cb, bs, rfl, -⟩ := id h
  obtain ⟨pv, cv, vs0, rfl, -⟩ := id hv
  refine ct_of_st Tryz.func19 rfl rfl rfl rfl ?_
  repeat (first | refine run_S ?_ | refine w_box (fun _ => ?_) | refine w_al (fun _ => ?_))
  refine sl_call rfl rfl rfl rfl rfl rfl (fun _ => sCoordinates_ct (kept_s kept_w _ _ _ _ uc h) hE (Ls.up hv kept_w uc (List.Sublist.refl _)) hb1 hb hbv1 hbv hn) ?_
  rintro v1 U1 D1 hU1 ⟨vc, e, rfl, he, hs, -, -, rfl⟩
  try rw [List.nil_append]
  repeat (first | refine run_S ?_ | refine w_box (fun _ => ?_) | refine w_al (fun _ => ?_))
  refine st_eq rfl (fun h2 => ?_) (fun h2 => ?_)
  · repeat (first | refine run_S ?_ | refine w_box (fun _ => ?_) | refine w_al (fun _ => ?_))
    exact sk_ret [] sym rfl (.cons (.tmp rfl) (.cons (.tmp rfl) .nil)) uc sb (.inl rfl) ⟨false, rfl, ⟨(fun h => by cases h), fun h => by have := hs.2 h; omega⟩, rfl⟩
  · obtain rfl : e = 0 := by omega
    repeat (first | refine run_S ?_ | refine w_box (fun _ => ?_) | refine w_al (fun _ => ?_))
    rw [show dec ((0 : Int) = 0) = true from dec_true rfl]
    exact sk_ret [] sym rfl (.cons (.tmp rfl) (.cons (.tmp rfl) .nil)) uc sb (.inl rfl) ⟨true, rfl, ⟨fun _ => hs.1 rfl, fun _ => rfl⟩, rfl⟩

theorem spair_ok {ra rb n ba bb : Nat} {va vb : Value} {A B : Nat → Nat → Rat} {qa qb : Nat → Nat} (ha : Sv (Wq ba) ra n U va A) (hb : Sv (Wq bb) rb n U vb B) (hA : La.Ech ra n A qa) (hB : La.Ech rb n B qb) (ha1 : 1 ≤ ba) (hba : ba ≤ 40000) (hb1 : 1 ≤ bb) (hbb : bb ≤ 40000) (hn : n ≤ 6) :
    Ct Tryz.prog 60 [va, vb] G U M fun v _ D => v = .int .i64 0 ∧ D = [] := by
  obtain ⟨_, rfl, pa, ca, as1, rfl, -⟩ := id ha
  obtain ⟨_, rfl, pb, cb, bs, rfl, -⟩ := id hb
  refine ct_of_st Tryz.func60 rfl rfl rfl rfl ?_
  repeat (first | refine run_S ?_ | refine w_box (fun _ => ?_) | refine w_al (fun _ => ?_))
  refine sl_call rfl rfl rfl rfl rfl rfl (fun _ => sCheck_ok (kept_s kept_w _ _ _ _ uc ha) hA ha1 hba hn) ?_
  rintro v1 U1 D1 hU1 ⟨rfl, rfl⟩
  try rw [List.nil_append]
  repeat (first | refine run_S ?_ | refine w_box (fun _ => ?_) | refine w_al (fun _ => ?_))
  refine sl_gdec rfl rfl (fun h => absurd rfl h) (fun _ => ?_)
  repeat (first | refine run_S ?_ | refine w_box (fun _ => ?_) | refine w_al (fun _ => ?_))
  refine sl_call rfl rfl rfl rfl rfl rfl (fun _ => sCheck_ok (kept_s kept_w _ _ _ _ uc hb) hB hb1 hbb hn) ?_
  rintro v2 U2 D2 hU2 ⟨rfl, rfl⟩
  try rw [List.nil_append]
  repeat (first | refine run_S ?_ | refine w_box (fun _ => ?_) | refine w_al (fun _ => ?_))
  refine st_ne rfl (fun h => absurd rfl h) (fun _ => ?_)
  repeat (first | refine run_S ?_ | refine w_box (fun _ => ?_) | refine w_al (fun _ => ?_))
  refine st_ne rfl (fun h => absurd rfl h) (fun _ => ?_)
  repeat (first | refine run_S ?_ | refine w_box (fun _ => ?_) | refine w_al (fun _ => ?_))
  exact sk_ret [] sym rfl (.cons (.tmp rfl) .nil) uc sb (.inl rfl) ⟨rfl, rfl⟩

theorem sWithin_ok {ra rb n ba bb : Nat} {va vb : Value} {A B : Nat → Nat → Rat} {qa qb : Nat → Nat} (ha : Sv (Wq ba) ra n U va A) (hb : Sv (Wq bb) rb n U vb B) (hA : La.Ech ra n A qa) (hB : La.Ech rb n B qb) (ha1 : 1 ≤ ba) (hba : ba ≤ 40000) (hb1 : 1 ≤ bb) (hbb : bb ≤ 40000) (hn : n ≤ 6) :
    Ct Tryz.prog 37 [va, vb] G U M fun v _ D => ∃ s : Bool, v = .tuple #[.bool s, .int .i64 0] ∧ (s = true ↔ ∀ i, i < ra → La.Sp rb n B (A i)) ∧ D = [] := by
  have hra := Nat.le_trans hA.le_n hn
  have hrb := Nat.le_trans hB.le_n hn
  have sA : ∀ i j, i < ra → j < n → Szq (A i j) ba := fun i j hi hj => ha.sz ha1 hi hj
  have sB : ∀ i j, i < rb → j < n → Szq (B i j) bb := fun i j hi hj => hb.sz hb1 hi hj
  obtain ⟨_, rfl, pa, ca, as1, rfl, -⟩ := id ha
  obtain ⟨_, rfl, pb, cb, bs, rfl, -⟩ := id hb
  refine ct_of_st Tryz.func37 rfl rfl rfl rfl ?_
  repeat (first | refine run_S ?_ | refine w_box (fun _ => ?_) | refine w_al (fun _ => ?_))
  rename_i b2 b3
  refine sl_call rfl rfl rfl rfl rfl rfl (fun _ => spair_ok (kept_s kept_w _ _ _ _ uc ha) (kept_s kept_w _ _ _ _ uc hb) hA hB ha1 hba hb1 hbb hn) ?_
  rintro v1 U1 D1 hU1 ⟨rfl, rfl⟩
  try rw [List.nil_append]
  repeat (first | refine run_S ?_ | refine w_box (fun _ => ?_) | refine w_al (fun _ => ?_))
  refine st_ne rfl (fun h => absurd rfl h) (fun _ => ?_)
  repeat (first | refine run_S ?_ | refine w_box (fun _ => ?_) | refine w_al (fun _ => ?_))
  try refine st_anti (M' := (b3, .var (.agg #[.int .i64 (n : Int), .int .i64 (rb : Int), .int .i64 (n : Int), .slice pb (rb * n) cb]), TS) :: (b2, .var (.agg #[.int .i64 (n : Int), .int .i64 (ra : Int), .int .i64 (n : Int), .slice pa (ra * n) ca]), TS) :: M) (ULe.refl _) sbk ?_
  refine st_loop (fun z E U' M' => ∃ (i : Nat), i ≤ ra ∧ (∀ k, k < i → La.Sp rb n B (A k)) ∧ E = [(19, .int .i64 (i : Int)), (18, .int .i64 (ra : Int)), (2, .pointer (some ⟨b2, 0, none⟩)), (3, .pointer (some ⟨b3, 0, none⟩))] ∧ ULe U1 U' ∧ M' = (b3, .var (.agg #[.int .i64 (n : Int), .int .i64 (rb : Int), .int .i64 (n : Int), .slice pb (rb * n) cb]), TS) :: (b2, .var (.agg #[.int .i64 (n : Int), .int .i64 (ra : Int), .int .i64 (n : Int), .slice pa (ra * n) ca]), TS) :: M ∧ z = ra - i) (n0 := ra - 0) (E0 := [(19, .int .i64 ((0 : Nat) : Int)), (18, .int .i64 (ra : Int)), (2, .pointer (some ⟨b2, 0, none⟩)), (3, .pointer (some ⟨b3, 0, none⟩))]) ⟨rfl, rfl, rfl, rfl, trivial⟩ ⟨0, by omega, fun k hk => absurd hk (Nat.not_lt_zero k), rfl, uc, rfl, rfl⟩ ?_
  rintro z E U2 M' ⟨i, hi, hk, rfl, hU2, rfl, rfl⟩
  try refine run_s ?_
  refine st_dec rfl (fun h => ?_) (fun h => ?_)
  · have hir : i < ra := by omega
    repeat (first | refine run_S ?_ | refine w_box (fun _ => ?_) | refine w_al (fun _ => ?_))
    refine st_draw [0, 1, 2, 3, 4, 5, 6, 7, 8, 9, 10] sym (by kernel_rfl) ?_
    repeat (first | refine run_S ?_ | refine w_box (fun _ => ?_) | refine w_al (fun _ => ?_))
    refine sl_call rfl rfl rfl rfl rfl rfl (fun _ => srow_ct (kept_m kept_w _ _ _ _ uc ha.vm) hir (by omega) (by omega)) ?_
    rintro v3 U3 D3 hU3 ⟨h3, rfl, rfl⟩
    try rw [List.nil_append]
    obtain ⟨p3, c3, s3, rfl, -⟩ := id h3
    repeat (first | refine run_S ?_ | refine w_box (fun _ => ?_) | refine w_al (fun _ => ?_))
    refine sl_call rfl rfl rfl rfl rfl rfl (fun _ => ssplit_co (kept_s kept_w _ _ _ _ uc hb) hB (Ls.up h3 kept_w uc (List.Sublist.refl _)) hb1 (by omega) ha1 (by omega) hn) ?_
    rintro v4 U4 D4 hU4 ⟨vc, vr, Dc, Dr, rfl, rfl, ⟨Pc, Cc, cs, rfl, hrc, hec⟩, ⟨P, C, vs, rfl, hrow, hel⟩, -⟩
    try rw [List.nil_append]
    refine sl_perm (M' := (b3, .var (.agg #[.int .i64 (n : Int), .int .i64 (rb : Int), .int .i64 (n : Int), .slice pb (rb * n) cb]), TS) :: (b2, .var (.agg #[.int .i64 (n : Int), .int .i64 (ra : Int), .int .i64 (n : Int), .slice pa (ra * n) ca]), TS) :: (Dr ++ (Dc ++ M))) ?_ pms
    repeat (first | refine run_S ?_ | refine w_box (fun _ => ?_) | refine w_al (fun _ => ?_))
    refine sl_call rfl rfl rfl rfl rfl rfl (fun _ => szero_ct (⟨P, C, vs, rfl, hrow.len.2.1, hrow.at sb, hel⟩ : Ls Vq 4 n U4 _ _ _) (fun j hj => (szq_prj hrb hB.lt sB (sA i · hir) hj).mono (by omega)) (by omega)) ?_
    rintro v5 U5 D5 hU5 ⟨s, rfl, hs, rfl, rfl⟩
    try rw [List.nil_append]
    cases s
    · repeat (first | refine run_S ?_ | refine w_box (fun _ => ?_) | refine w_al (fun _ => ?_))
      exact sk_ret [] sym rfl (.cons (.tmp rfl) (.cons (.tmp rfl) .nil)) uc sb (.inl rfl) ⟨false, rfl, ⟨(fun h => by cases h), fun h4 => by have := hs.2 ((La.prj_sp hB).2 (h4 i hir)); cases this⟩, rfl⟩
    · repeat (first | refine run_S ?_ | refine w_box (fun _ => ?_) | refine w_al (fun _ => ?_))
      refine sk_anti (M' := (b3, .var (.agg #[.int .i64 (n : Int), .int .i64 (rb : Int), .int .i64 (n : Int), .slice pb (rb * n) cb]), TS) :: (b2, .var (.agg #[.int .i64 (n : Int), .int .i64 (ra : Int), .int .i64 (n : Int), .slice pa (ra * n) ca]), TS) :: M) (ULe.refl _) sbk ?_
      exact sk_again (E' := [(19, .int .i64 ((i : Int) + 1)), (18, .int .i64 (ra : Int)), (2, .pointer (some ⟨b2, 0, none⟩)), (3, .pointer (some ⟨b3, 0, none⟩))]) (m := ra - (i + 1)) ⟨rfl, rfl, rfl, rfl, trivial⟩ (by omega) ⟨i + 1, by omega, (fun k hk' => by
        rcases Nat.lt_or_eq_of_le (Nat.le_of_lt_succ hk') with h5 | h5
        · exact hk k h5
        · rw [h5]; exact (La.prj_sp hB).1 (hs.1 rfl)), rfl, uc, rfl, rfl⟩
  · have e : ra = i := by omega
    subst e
    repeat (first | refine run_S ?_ | refine w_box (fun _ => ?_) | refine w_al (fun _ => ?_))
    exact sk_ret [] sym rfl (.cons (.tmp rfl) (.cons (.tmp rfl) .nil)) uc sb (.inl rfl) ⟨true, rfl, ⟨fun _ => hk, fun _ => rfl⟩, rfl⟩

end Go.Proofs.YtocjmbilepbokaaGreat

/- Walks of subspace: the rows of two bases, their span, sums, annihilators, intersections. -/
namespace Go.Proofs.YtocjmbilepbokaaGreat
open Go.Hp
variable {G : World} {U U' : UH} {M M' : MH}

theorem _root_.Go.Hp.Ls.wr {r n b : Nat} {v : Value} {A : Nat → Nat → Rat} (h : Ls (Wr b n) 1 r U M v A) (hn : n ≤ 1000) : Ls (Rq b) 1 r U M v (fun k => (n, A k)) := by
  obtain ⟨p, c, vs, h1, h0, h2, h3⟩ := h
  exact ⟨p, c, vs, h1, h0, h2, fun k x hk => ⟨Nat.le_trans hn (by decide), h3 k x hk⟩⟩

theorem mFromRows_ok {m n b : Nat} {vr : Value} {A : Nat → Nat → Rat} (hv : Ls (Wr b n) 1 m U M vr A) (hb : b ≤ 10000000000) (hm : m ≤ 1000) (hn : n ≤ 1000) :
    Ct Tryz.prog 88 [.int .i64 (n : Int), vr] G U M fun v U' D => ∃ vM, v = .tuple #[vM, .int .i64 0] ∧ Vm Vq m n U' vM A ∧ D = [] :=
  (mFromRows_ctM (hv.wr hn) hb (by omega)).mono fun _ _ _ _ ⟨vM, e, h1, h2, _, h4⟩ => by
    obtain ⟨rfl, h5⟩ := h2 ⟨⟨by omega, by omega⟩, by omega, fun _ _ => rfl⟩
    exact ⟨vM, h1, h5, h4⟩

theorem srowsOf_co {ra rb n b : Nat} {va vb : Value} {A B : Nat → Nat → Rat} (ha : Sv (Wq b) ra n U va A) (hb : Sv (Wq b) rb n U vb B) (hra : ra ≤ 6) (hrb : rb ≤ 6) (hn : n ≤ 6) :
    Ct Tryz.prog 63 [va, vb] G U M fun v U' D => Lo (Wr b n) TRs 1 (ra + rb) U' D v (La.stack ra A B) ∧ ULe U U' := by
  obtain ⟨_, rfl, pa, ca, as1, rfl, -⟩ := id ha
  obtain ⟨_, rfl, pb, cb, bs, rfl, -⟩ := id hb
  refine ct_of_st Tryz.func63 rfl rfl rfl rfl ?_
  repeat (first | refine run_S ?_ | refine w_box (fun _ => ?_) | refine w_al (fun _ => ?_))
  rename_i b2 b3
  refine sl_bslice (vs := [.agg #[.int .i64 (n : Int), .int .i64 (ra : Int), .int .i64 (n : Int), .slice pa (ra * n) ca], .agg #[.int .i64 (n : Int), .int .i64 (rb : Int), .int .i64 (n : Int), .slice pb (rb * n) cb]]) sym rfl rfl rfl rfl rfl rfl (all_size rfl) rfl rfl rfl rfl rfl rfl (fun bl => ?_)
  repeat (first | refine run_S ?_ | refine w_box (fun _ => ?_) | refine w_al (fun _ => ?_))
  try refine st_anti (M' := (bl, .arr [.agg #[.int .i64 (n : Int), .int .i64 (ra : Int), .int .i64 (n : Int), .slice pa (ra * n) ca], .agg #[.int .i64 (n : Int), .int .i64 (rb : Int), .int .i64 (n : Int), .slice pb (rb * n) cb]], TS) :: (b3, .var (.agg #[.int .i64 (n : Int), .int .i64 (rb : Int), .int .i64 (n : Int), .slice pb (rb * n) cb]), TS) :: (b2, .var (.agg #[.int .i64 (n : Int), .int .i64 (ra : Int), .int .i64 (n : Int), .slice pa (ra * n) ca]), TS) :: (([]) ++ M)) (ULe.refl _) sbk ?_
  refine st_loop (fun z E U' M' => ∃ (k m : Nat) (P : Option Addr) (C : Nat) (vs : List Value) (D : MH), k ≤ 2 ∧ m = (if k = 0 then 0 else if k = 1 then ra else ra + rb) ∧ RowO TRs 1 D P m C vs ∧ El (Wr b n) U' vs (La.stack ra A B) ∧ E = [(13, .int .i64 (k : Int)), (12, .int .i64 2), (11, .slice (some ⟨bl, 0, none⟩) 2 2), (5, .slice P m C)] ∧ ULe U U' ∧ M' = (bl, .arr [.agg #[.int .i64 (n : Int), .int .i64 (ra : Int), .int .i64 (n : Int), .slice pa (ra * n) ca], .agg #[.int .i64 (n : Int), .int .i64 (rb : Int), .int .i64 (n : Int), .slice pb (rb * n) cb]], TS) :: (b3, .var (.agg #[.int .i64 (n : Int), .int .i64 (rb : Int), .int .i64 (n : Int), .slice pb (rb * n) cb]), TS) :: (b2, .var (.agg #[.int .i64 (n : Int), .int .i64 (ra : Int), .int .i64 (n : Int), .slice pa (ra * n) ca]), TS) :: (D ++ M) ∧ z = 2 - k) (n0 := 2 - 0) (E0 := [(13, .int .i64 ((0 : Nat) : Int)), (12, .int .i64 2), (11, .slice (some ⟨bl, 0, none⟩) 2 2), (5, .slice none 0 0)]) ⟨rfl, rfl, rfl, rfl, trivial⟩ ⟨0, 0, none, 0, [], [], by omega, rfl, RowO.nil, El.nil, rfl, uc, rfl, rfl⟩ ?_
  rintro z E U1 M' ⟨k, m, P, C, vs, D, hk, hm, hrow, hel, rfl, hU1, rfl, rfl⟩
  try refine run_s ?_
  refine st_dec rfl (fun h => ?_) (fun h => ?_)
  · have hk2 : k < 2 := by omega
    have rl := (RowO.mk (e := TS) (s := 4) (b := bl) (n := 2) (vs := [.agg #[.int .i64 (n : Int), .int .i64 (ra : Int), .int .i64 (n : Int), .slice pa (ra * n) ca], .agg #[.int .i64 (n : Int), .int .i64 (rb : Int), .int .i64 (n : Int), .slice pb (rb * n) cb]]) rfl (all_size rfl) (by omega)).at (U := U1) (M := (bl, .arr [.agg #[.int .i64 (n : Int), .int .i64 (ra : Int), .int .i64 (n : Int), .slice pa (ra * n) ca], .agg #[.int .i64 (n : Int), .int .i64 (rb : Int), .int .i64 (n : Int), .slice pb (rb * n) cb]], TS) :: (b3, .var (.agg #[.int .i64 (n : Int), .int .i64 (rb : Int), .int .i64 (n : Int), .slice pb (rb * n) cb]), TS) :: (b2, .var (.agg #[.int .i64 (n : Int), .int .i64 (ra : Int), .int .i64 (n : Int), .slice pa (ra * n) ca]), TS) :: (D ++ M)) sb
    have hg : ∃ (rk : Nat) (pk : Option Addr) (ck : Nat) (Bk : Nat → Nat → Rat), ([.agg #[.int .i64 (n : Int), .int .i64 (ra : Int), .int .i64 (n : Int), .slice pa (ra * n) ca], .agg #[.int .i64 (n : Int), .int .i64 (rb : Int), .int .i64 (n : Int), .slice pb (rb * n) cb]] : List Value)[k]? = some (.agg #[.int .i64 (n : Int), .int .i64 (rk : Int), .int .i64 (n : Int), .slice pk (rk * n) ck]) ∧ Sv (Wq b) rk n U1 (.agg #[.int .i64 (n : Int), .int .i64 (rk : Int), .int .i64 (n : Int), .slice pk (rk * n) ck]) Bk ∧ (∀ i, i < rk → La.stack ra A B (m + i) = Bk i) ∧ m + rk = (if k + 1 = 0 then 0 else if k + 1 = 1 then ra else ra + rb) ∧ m ≤ 6 ∧ rk ≤ 6 := by
      rcases (show k = 0 ∨ k = 1 by omega) with rfl | rfl
      · rw [if_pos rfl] at hm
        subst hm
        exact ⟨ra, pa, ca, A, rfl, kept_s kept_w _ _ _ _ uc ha, fun i hi => by rw [Nat.zero_add, La.stack_lt hi], by rw [if_neg (by omega), if_pos rfl, Nat.zero_add], by omega, hra⟩
      · rw [if_neg (by omega), if_pos rfl] at hm
        subst hm
        exact ⟨rb, pb, cb, B, rfl, kept_s kept_w _ _ _ _ uc hb, fun i hi => La.stack_add, by rw [if_neg (by omega), if_neg (by omega)], hra, hrb⟩
    obtain ⟨rk, pk, ck, Bk, hv1, hsk, hst, hnext, hm6, hrk⟩ := hg
    clear hm
    repeat (first | refine run_S ?_ | refine w_box (fun _ => ?_) | refine w_al (fun _ => ?_))
    refine sl_y (yl_index sym rfl rfl rfl rfl rfl rfl (rl.lt hv1) (rl.get _ _ hv1).1) rfl rfl rfl rfl ?_; refine sl_y (yl_loadRs sym rfl rfl rfl rfl rfl rl hv1) rfl rfl rfl rfl ?_
    repeat (first | refine run_S ?_ | refine w_box (fun _ => ?_) | refine w_al (fun _ => ?_))
    rename_i b7
    try refine st_anti (M' := (b7, .var (.agg #[.int .i64 (n : Int), .int .i64 (rk : Int), .int .i64 (n : Int), .slice pk (rk * n) ck]), TS) :: (bl, .arr [.agg #[.int .i64 (n : Int), .int .i64 (ra : Int), .int .i64 (n : Int), .slice pa (ra * n) ca], .agg #[.int .i64 (n : Int), .int .i64 (rb : Int), .int .i64 (n : Int), .slice pb (rb * n) cb]], TS) :: (b3, .var (.agg #[.int .i64 (n : Int), .int .i64 (rb : Int), .int .i64 (n : Int), .slice pb (rb * n) cb]), TS) :: (b2, .var (.agg #[.int .i64 (n : Int), .int .i64 (ra : Int), .int .i64 (n : Int), .slice pa (ra * n) ca]), TS) :: (D ++ M)) (ULe.refl _) sbk ?_
    refine st_loop (fun z E U' M' => ∃ (i : Nat) (P : Option Addr) (C : Nat) (vs : List Value) (D : MH), i ≤ rk ∧ RowO TRs 1 D P (m + i) C vs ∧ El (Wr b n) U' vs (La.stack ra A B) ∧ E = [(20, .int .i64 (i : Int)), (19, .int .i64 (rk : Int)), (5, .slice P (m + i) C), (7, .pointer (some ⟨b7, 0, none⟩)), (13, .int .i64 (k : Int)), (12, .int .i64 2), (11, .slice (some ⟨bl, 0, none⟩) 2 2)] ∧ ULe U1 U' ∧ M' = (b7, .var (.agg #[.int .i64 (n : Int), .int .i64 (rk : Int), .int .i64 (n : Int), .slice pk (rk * n) ck]), TS) :: (bl, .arr [.agg #[.int .i64 (n : Int), .int .i64 (ra : Int), .int .i64 (n : Int), .slice pa (ra * n) ca], .agg #[.int .i64 (n : Int), .int .i64 (rb : Int), .int .i64 (n : Int), .slice pb (rb * n) cb]], TS) :: (b3, .var (.agg #[.int .i64 (n : Int), .int .i64 (rb : Int), .int .i64 (n : Int), .slice pb (rb * n) cb]), TS) :: (b2, .var (.agg #[.int .i64 (n : Int), .int .i64 (ra : Int), .int .i64 (n : Int), .slice pa (ra * n) ca]), TS) :: (D ++ M) ∧ z = rk - i) (n0 := rk - 0) (E0 := [(20, .int .i64 ((0 : Nat) : Int)), (19, .int .i64 (rk : Int)), (5, .slice P (m + 0) C), (7, .pointer (some ⟨b7, 0, none⟩)), (13, .int .i64 (k : Int)), (12, .int .i64 2), (11, .slice (some ⟨bl, 0, none⟩) 2 2)]) ⟨rfl, rfl, rfl, rfl, rfl, rfl, rfl, trivial⟩ ⟨0, P, C, vs, D, by omega, hrow, hel, rfl, uc, rfl, rfl⟩ ?_
    clear hrow hel
    rintro z E U2 M' ⟨i, P, C, vs, D, hi, hrow, hel, rfl, hU2, rfl, rfl⟩
    try refine run_s ?_
    refine st_dec rfl (fun h => ?_) (fun h => ?_)
    · have hir : i < rk := by omega
      repeat (first | refine run_S ?_ | refine w_box (fun _ => ?_) | refine w_al (fun _ => ?_))
      refine sl_call rfl rfl rfl rfl rfl rfl (fun _ => srow_ct (kept_m kept_w _ _ _ _ uc hsk.vm) hir (by omega) (by omega)) ?_
      rintro v3 U3 D3 hU3 ⟨h3, rfl, rfl⟩
      try rw [List.nil_append]
      obtain ⟨p3, c3, s3, rfl, h3'⟩ := id h3
      repeat (first | refine run_S ?_ | refine w_box (fun _ => ?_) | refine w_al (fun _ => ?_))
      refine w_push hrow (perm4 (D := _)).symm (fun bhr2 phr2 chr2 Dhr2 hr2 => ?_)
      refine sl_perm ?_ (perm4 (D := Dhr2))
      repeat (first | refine run_S ?_ | refine w_box (fun _ => ?_) | refine w_al (fun _ => ?_))
      exact sk_again (E' := [(20, .int .i64 ((i : Int) + 1)), (19, .int .i64 (rk : Int)), (5, .slice phr2 (m + (i + 1)) chr2), (7, .pointer (some ⟨b7, 0, none⟩)), (13, .int .i64 (k : Int)), (12, .int .i64 2), (11, .slice (some ⟨bl, 0, none⟩) 2 2)]) (m := rk - (i + 1)) ⟨rfl, rfl, rfl, rfl, rfl, rfl, rfl, trivial⟩ (by omega) ⟨i + 1, phr2, chr2, _, Dhr2, by omega, hr2, snoc_ok hrow.len.1 hel (by rw [hst i hir]; exact h3), rfl, uc, rfl, rfl⟩
    · have e : rk = i := by omega
      subst e
      repeat (first | refine run_S ?_ | refine w_box (fun _ => ?_) | refine w_al (fun _ => ?_))
      refine sk_anti (M' := (bl, .arr [.agg #[.int .i64 (n : Int), .int .i64 (ra : Int), .int .i64 (n : Int), .slice pa (ra * n) ca], .agg #[.int .i64 (n : Int), .int .i64 (rb : Int), .int .i64 (n : Int), .slice pb (rb * n) cb]], TS) :: (b3, .var (.agg #[.int .i64 (n : Int), .int .i64 (rb : Int), .int .i64 (n : Int), .slice pb (rb * n) cb]), TS) :: (b2, .var (.agg #[.int .i64 (n : Int), .int .i64 (ra : Int), .int .i64 (n : Int), .slice pa (ra * n) ca]), TS) :: (D ++ M)) (ULe.refl _) (List.sublist_cons_self ..) ?_
      exact sk_again (E' := [(13, .int .i64 ((k : Int) + 1)), (12, .int .i64 2), (11, .slice (some ⟨bl, 0, none⟩) 2 2), (5, .slice P (m + rk) C)]) (m := 2 - (k + 1)) ⟨rfl, rfl, rfl, rfl, trivial⟩ (by omega) ⟨k + 1, m + rk, P, C, vs, D, by omega, hnext, hrow, hel, rfl, uc, rfl, rfl⟩
  · have e : k = 2 := by omega
    subst e
    rw [if_neg (by omega), if_neg (by omega)] at hm
    subst hm
    repeat (first | refine run_S ?_ | refine w_box (fun _ => ?_) | refine w_al (fun _ => ?_))
    exact sk_ret D sym rfl (.cons (.tmp rfl) .nil) uc sb (.inl rfl) ⟨⟨P, C, vs, rfl, hrow, hel⟩, uc⟩

theorem sreduced_ct {m n b : Nat} {vr : Value} {A : Nat → Nat → Rat} (hv : Ls (Wr b n) 1 m U M vr A) (hb1 : 1 ≤ b) (hb : b ≤ 40000) (hm : m ≤ 1000) (hn : n ≤ 6) :
    Ct Tryz.prog 62 [.int .i64 (n : Int), vr] G U M fun v U' D => ∃ (r : Nat) (R : Nat → Nat → Rat) (p : Nat → Nat), Sv Vq r n U' v R ∧ La.Ech r n R p ∧ La.Same r m n R A ∧ D = [] := by
  obtain ⟨pv, cv, vs0, rfl, hcv, rv, ev⟩ := id hv
  have hz2 : ∀ i j, i < m → j < n → Szq (A i j) b := fun i j hi hj => by
    obtain ⟨x, hx⟩ := rv.at hi
    exact (ev _ _ hx).sz hb1 hj
  have one : ∀ v ∈ vs0, v.cells.toList.all Value.oneCell' = true := El.ones ev fun _ _ h => by
    obtain ⟨_, _, _, rfl, -⟩ := h; rfl
  refine ct_of_st Tryz.func62 rfl rfl rfl rfl ?_
  repeat (first | refine run_S ?_ | refine w_box (fun _ => ?_) | refine w_al (fun _ => ?_))
  rename_i b4
  refine sl_call rfl rfl rfl rfl rfl rfl (fun _ => sZero_ct (n := n) (by omega)) ?_
  rintro v1 U1 D1 hU1 ⟨_, rfl, ⟨_, rfl, p1, c1, s1, rfl, h1⟩, rfl⟩
  try rw [List.nil_append]
  have hz : Sv Vq 0 n U1 (.agg #[.int .i64 (n : Int), .int .i64 ((0 : Nat) : Int), .int .i64 (n : Int), .slice p1 (0 * n) c1]) (fun _ _ => 0) := ⟨_, rfl, p1, c1, s1, rfl, h1⟩
  repeat (first | refine run_S ?_ | refine w_box (fun _ => ?_) | refine w_al (fun _ => ?_))
  rename_i b5
  try refine st_anti (M' := (b5, .var (.agg #[.int .i64 (n : Int), .int .i64 ((0 : Nat) : Int), .int .i64 (n : Int), .slice p1 (0 * n) c1]), TS) :: (b4, .var (.agg #[.int .i64 0, .int .i64 0, .int .i64 0, .slice none 0 0]), TS) :: M) (ULe.refl _) sbk ?_
  refine st_loop (fun z E U' M' => ∃ (k : Nat) (Q : Option Addr) (CQ r : Nat) (R : Nat → Nat → Rat) (p : Nat → Nat) (po : Option Addr) (co : Nat), (k = 0 ∨ (k = m ∧ r = 0 ∧ Q = pv ∧ CQ = cv)) ∧ Sv Vq r n U' (.agg #[.int .i64 (n : Int), .int .i64 (r : Int), .int .i64 (n : Int), .slice po (r * n) co]) R ∧ La.Ech r n R p ∧ La.Same r (m - k) n R A ∧ E = [(0, .int .i64 (n : Int)), (1, .slice Q k CQ), (5, .pointer (some ⟨b5, 0, none⟩)), (4, .pointer (some ⟨b4, 0, none⟩))] ∧ ULe U1 U' ∧ M' = (b5, .var (.agg #[.int .i64 (n : Int), .int .i64 (r : Int), .int .i64 (n : Int), .slice po (r * n) co]), TS) :: (b4, .var (.agg #[.int .i64 0, .int .i64 0, .int .i64 0, .slice none 0 0]), TS) :: M ∧ z = k) (n0 := m) (E0 := [(0, .int .i64 (n : Int)), (1, .slice pv m cv), (5, .pointer (some ⟨b5, 0, none⟩)), (4, .pointer (some ⟨b4, 0, none⟩))]) ⟨rfl, rfl, rfl, rfl, trivial⟩ ⟨m, pv, cv, 0, fun _ _ => 0, id, p1, c1, .inr ⟨rfl, rfl, rfl, rfl⟩, hz, ⟨(fun i hi => absurd hi (Nat.not_lt_zero i)), (fun i k _ hk => absurd hk (Nat.not_lt_zero k)), (fun i k hi => absurd hi (Nat.not_lt_zero i)), (fun i j hi => absurd hi (Nat.not_lt_zero i))⟩, ⟨(fun i hi => absurd hi (Nat.not_lt_zero i)), (fun i hi => by omega)⟩, rfl, uc, rfl, rfl⟩ ?_
  rintro z E U2 M' ⟨k, Q, CQ, r, R, p, po, co, hk, hS, hE, hs, rfl, hU2, rfl, hzL1⟩
  try refine run_s ?_
  refine st_dec rfl (fun h => ?_) (fun h => ?_)
  · obtain ⟨hkm, hr0, hQ, hC⟩ : k = m ∧ r = 0 ∧ Q = pv ∧ CQ = cv := by
      rcases hk with h2 | h2
      · omega
      · exact h2
    subst hkm hr0 hQ hC
    repeat (first | refine run_S ?_ | refine w_box (fun _ => ?_) | refine w_al (fun _ => ?_))
    rw [if_neg (by omega)]
    repeat (first | refine run_S ?_ | refine w_box (fun _ => ?_) | refine w_al (fun _ => ?_))
    try refine st_anti (M' := (b5, .var (.agg #[.int .i64 (n : Int), .int .i64 ((0 : Nat) : Int), .int .i64 (n : Int), .slice po (0 * n) co]), TS) :: (b4, .var (.agg #[.int .i64 0, .int .i64 0, .int .i64 0, .slice none 0 0]), TS) :: M) (ULe.refl _) sbk ?_
    refine st_loop (fun z E U' M' => ∃ (i : Nat), i = 0 ∧ E = [(30, .int .i64 (i : Int)), (29, .int .i64 ((0 : Nat) : Int)), (8, .slice none 0 0), (7, .int .i64 (k : Int)), (0, .int .i64 (n : Int)), (1, .slice Q k CQ), (5, .pointer (some ⟨b5, 0, none⟩)), (4, .pointer (some ⟨b4, 0, none⟩))] ∧ ULe U2 U' ∧ M' = (b5, .var (.agg #[.int .i64 (n : Int), .int .i64 ((0 : Nat) : Int), .int .i64 (n : Int), .slice po (0 * n) co]), TS) :: (b4, .var (.agg #[.int .i64 0, .int .i64 0, .int .i64 0, .slice none 0 0]), TS) :: M ∧ z = 1) (n0 := 1) (E0 := [(30, .int .i64 ((0 : Nat) : Int)), (29, .int .i64 ((0 : Nat) : Int)), (8, .slice none 0 0), (7, .int .i64 (k : Int)), (0, .int .i64 (n : Int)), (1, .slice Q k CQ), (5, .pointer (some ⟨b5, 0, none⟩)), (4, .pointer (some ⟨b4, 0, none⟩))]) ⟨rfl, rfl, rfl, rfl, rfl, rfl, rfl, rfl, trivial⟩ ⟨0, rfl, rfl, uc, rfl, rfl⟩ ?_
    rintro z E U3 M' ⟨i, hi, rfl, hU3, rfl, hzL2⟩
    try refine run_s ?_
    refine st_dec rfl (fun h => absurd h (by omega)) (fun h2 => ?_)
    repeat (first | refine run_S ?_ | refine w_box (fun _ => ?_) | refine w_al (fun _ => ?_))
    refine st_eq rfl (fun h => absurd h (by omega)) (fun h2 => ?_)
    repeat (first | refine run_S ?_ | refine w_box (fun _ => ?_) | refine w_al (fun _ => ?_))
    refine sl_y (yl_sliceTo (h := k) sym rfl rfl rfl rfl rfl rfl hcv) rfl rfl rfl rfl ?_
    refine w_app (X := (b5, .var (.agg #[.int .i64 (n : Int), .int .i64 ((0 : Nat) : Int), .int .i64 (n : Int), .slice po (0 * n) co]), TS) :: (b4, .var (.agg #[.int .i64 0, .int .i64 0, .int .i64 0, .slice none 0 0]), TS) :: M) RowO.nil (List.Perm.refl _) (rv.up uc sb) one (fun p3 c3 D3 hr3 => ?_)
    have e0 : 0 + k = k := Nat.zero_add k
    rw [e0, List.nil_append] at hr3
    rw [e0]
    refine sl_perm ?_ (perm2 (D := D3))
    repeat (first | refine run_S ?_ | refine w_box (fun _ => ?_) | refine w_al (fun _ => ?_))
    refine sl_call rfl rfl rfl rfl rfl rfl (fun _ => mFromRows_ok (⟨p3, c3, vs0, rfl, hr3.len.2.1, hr3.at sb, ev.up kept_wr uc⟩ : Ls (Wr b n) 1 k U3 _ _ A) (by omega) hm (by omega)) ?_
    rintro v4 U4 D4 hU4 ⟨_, rfl, h4, rfl⟩
    try rw [List.nil_append]
    obtain ⟨_, rfl, p4, c4, s4, rfl, -⟩ := id h4
    repeat (first | refine run_S ?_ | refine w_box (fun _ => ?_) | refine w_al (fun _ => ?_))
    rename_i b10
    refine sl_call rfl rfl rfl rfl rfl rfl (fun _ => sSpan_ct (b := b) ((kept_m kept_q _ _ _ _ uc h4).w fun i j hi hj => hz2 i j hi hj) hb1 hb hm hn) ?_
    rintro v5 U5 D5 hU5 ⟨r5, R5, q5, _, rfl, hS5, hE5, hs5, rfl⟩
    try rw [List.nil_append]
    obtain ⟨_, rfl, p5, c5, s5, rfl, -⟩ := id hS5
    repeat (first | refine run_S ?_ | refine w_box (fun _ => ?_) | refine w_al (fun _ => ?_))
    refine sl_y (yl_slice (l := k) (h := k) sym rfl rfl rfl rfl (.inr ⟨_, _, _, rfl, rfl, rfl⟩) (.inl ⟨rfl, rfl⟩) (Nat.le_refl _) hcv) rfl rfl rfl rfl ?_
    rw [Nat.sub_self]
    generalize (if CQ = k then Q else Q.map (·.add (k * 1))) = Q6
    repeat (first | refine run_S ?_ | refine w_box (fun _ => ?_) | refine w_al (fun _ => ?_))
    refine sk_anti (M' := (b5, .var (.agg #[.int .i64 (n : Int), .int .i64 (r5 : Int), .int .i64 (n : Int), .slice p5 (r5 * n) c5]), TS) :: (b4, .var (.agg #[.int .i64 0, .int .i64 0, .int .i64 0, .slice none 0 0]), TS) :: M) (ULe.refl _) sbk ?_
    exact sk_again (E' := [(0, .int .i64 (n : Int)), (1, .slice Q6 0 (CQ - k)), (5, .pointer (some ⟨b5, 0, none⟩)), (4, .pointer (some ⟨b4, 0, none⟩))]) (m := 0) ⟨rfl, rfl, rfl, rfl, trivial⟩ (by omega) ⟨0, Q6, CQ - k, r5, R5, q5, p5, c5, .inl rfl, hS5, hE5, by rw [Nat.sub_zero]; exact hs5, rfl, uc, rfl, rfl⟩
  · obtain rfl : k = 0 := by omega
    rw [Nat.sub_zero] at hs
    obtain ⟨_, he, p5, c5, s5, he2, -⟩ := id hS
    repeat (first | refine run_S ?_ | refine w_box (fun _ => ?_) | refine w_al (fun _ => ?_))
    refine sk_ret [] sym rfl (.cons (.cell 1 rfl rfl rfl) .nil) uc sb (.inl rfl) ?_
    exact ⟨r, R, p, hS, hE, hs, rfl⟩

end Go.Proofs.YtocjmbilepbokaaGreat
