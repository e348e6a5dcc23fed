/- Texts of this seat's own, merged: each begins with its own remark. -/
import Derived.Test.YtocjmbilepbokaaGreatM30
import Derived.Test.YtocjmbilepbokaaGreatM21
/- Walks of reference 10: sums, annihilators, maps, complements. -/
namespace Go.Proofs.YtocjmbilepbokaaGreat
open Go.Hp
variable {G : World} {U U' : UH} {M M' : MH}

/-- What the field f of a struct value is. -/
def fldV (T : TT) (s f : Nat) (v : Value) : Option Value :=
  match v, lkT T s with
  | .agg c, some ⟨.struct fs, _, _, _⟩ => match fs[f]? with
    | some (ft, off) => match lkT T ft with
      | some ⟨.struct _, n, _, _⟩ => some (.agg ((c.toList.drop off).take n).toArray)
      | some ⟨.other, _, _, _⟩ => none
      | some _ => nth c.toList off
      | none => none
    | none => none
  | _, _ => none

theorem fldV_run {s f : Nat} {v r : Value} {T : TT} {P : Program} (hS : Sym P T) (h : fldV T s f v = some r) (w : World) : (Instr.field s v f).run P w = .ok r w := by
  unfold fldV at h
  split at h
  · rename_i c fs _ _ _ hT
    obtain ⟨d, hd, hk⟩ := (hS.at hT).und
    obtain ⟨g, rfl, hg⟩ := kindOf_struct hk
    split at h
    · rename_i ft off hf
      rw [← hg] at hf
      simp only [List.getElem?_map, Array.getElem?_toList, Option.map_eq_some_iff] at hf
      obtain ⟨fd, hfd, hfe⟩ := hf
      simp only [Prod.mk.injEq] at hfe
      obtain ⟨rfl, rfl⟩ := hfe
      split at h
      · rename_i fs2 n _ _ hft
        simp only [Option.some.injEq] at h
        subst h
        have h1 := run_isAgg_struct (P := P) (hS.at hft) rfl w
        have h2 := (hS.at hft).run_size w
        have h3 : c.extract fd.offset (fd.offset + n) = ((c.toList.drop fd.offset).take n).toArray := by
          apply Array.toList_inj.1
          simp [Array.toList_extract, List.extract_eq_take_drop]
        simp [Instr.field, run_underlying' hd, hfd, part, h1, h2, asAgg, h3]
      · cases h
      · rename_i ti hn1 hn2 hft
        have h1 := run_isAgg_one (P := P) (hS.at hft) (by
          obtain ⟨k, sz, bt, z⟩ := ti
          cases k <;> first | rfl | (exact absurd rfl (hn1 _ _ _ _)) | (exact absurd rfl (hn2 _ _ _))) w
        rw [nth_eq] at h
        simp only [Array.getElem?_toList] at h
        simp [Instr.field, run_underlying' hd, hfd, part, h1, asAgg, h]
      · cases h
    · cases h
  · cases h

theorem w_fld {G : World} {U : UH} {M : MH} {K : Kont} {N : Nat} {L : List Oper} {l : List Ent} {E : Env} {f : Bool} {i : Nat} {o : Oper} {d s j : Nat} {x : Operand} {v r : Value} (h : SL Tryz.prog tys L K N G l ((d, r) :: E) U M) (ho : o.op = .field s x j := by exact rfl) (hx : ev E x = some v := by exact rfl) (hv : fldV tys s j v = some r := by exact rfl)
    (hk : yB f tys o = true := by exact rfl) (hd : o.dst = some d := by exact rfl) (hN : Nat.blt d N = true := by exact rfl) (hg : gok L E o.guard = some true := by exact rfl) : SL Tryz.prog tys L K N G ((f, i, o) :: l) E U M :=
  sl_y ⟨fun a w ha _ => by simp [execOp, ho, ha.eval hx, fldV_run sym hv w]⟩ hk hd hN hg h

end Go.Proofs.YtocjmbilepbokaaGreat

/- Walks of reference 10: maps on invariant subspaces and on quotients, complements. -/
namespace Go.Proofs.YtocjmbilepbokaaGreat
open Go.Hp
variable {G : World} {U U' : UH} {M M' : MH}

theorem mm_szq {r n m b : Nat} {B T : Nat → Nat → Rat} (hB : ∀ i k, i < r → k < n → Szq (B i k) b) (hT : ∀ k j, k < n → j < m → Szq (T k j) b) (hn : n ≤ 6) : ∀ i j, i < r → j < m → Szq (La.mm n B T i j) (12 * b + 7) := fun i j hi hj => by
  have hnm : n * (2 * b + 1) ≤ 6 * (2 * b + 1) := Nat.mul_le_mul_right _ hn
  exact (szq_mm (fun k hk => hB i k hi hk) (fun k hk => hT k j hk hj)).mono (by omega)

end Go.Proofs.YtocjmbilepbokaaGreat

/- Walks of subspace: coordinates, elements, pairs, inclusion. -/
namespace Go.Proofs.YtocjmbilepbokaaGreat
open Go.Hp
variable {G : World} {U U' : UH} {M M' : MH}

theorem sCoordinates_ct {r n b bv : Nat} {v vv : Value} {B : Nat → Nat → Rat} {q : Nat → Nat} {f : Nat → Rat} (h : Sv (Wq b) r n U v B) (hE : La.Ech r n B q) (hv : Ls (Wq bv) 4 n U [] vv f) (hb1 : 1 ≤ b) (hb : b ≤ 40000) (hbv1 : 1 ≤ bv) (hbv : bv ≤ 100000000) (hn : n ≤ 6) :
    Ct Tryz.prog 20 [v, vv] G U M fun v U' D => ∃ (vc : Value) (e : Int), v = .tuple #[vc, .int .i64 e] ∧ (e = 0 ∨ e = 12) ∧ (e = 0 ↔ La.Sp r n B f) ∧ (e = 0 → Ls Vq 4 r U' [] vc (fun i => f (q i))) ∧ (e = 12 → vc = .slice none 0 0) ∧ D = [] := by
  have hr : r ≤ 6 := Nat.le_trans hE.le_n hn
  have sB : ∀ i j, i < r → j < n → Szq (B i j) b := fun i j hi hj => h.sz hb1 hi hj
  have sf : ∀ j, j < n → Szq (f j) bv := fun j hj => hv.sz hbv1 hj
  have sP : ∀ j, j < n → Szq (La.prj r B q f j) (8 * bv + 6 * b + 8) := fun j hj => szq_prj hr (fun i hi => hE.lt i hi) sB sf hj
  have h0 := h
  obtain ⟨_, rfl, pb, cb, bs, rfl, -⟩ := h
  obtain ⟨pv, cv, vs0, rfl, -⟩ := id hv
  refine ct_of_st Tryz.func20 rfl rfl rfl rfl ?_
  repeat (first | refine run_S ?_ | refine w_box (fun _ => ?_) | refine w_al (fun _ => ?_))
  rename_i b2
  refine sl_call rfl rfl rfl rfl rfl rfl (fun _ => sCheck_ok (kept_s kept_w _ _ _ _ uc h0) hE hb1 hb hn) ?_
  rintro v1 U1 D1 hU1 ⟨rfl, rfl⟩
  try rw [List.nil_append]
  repeat (first | refine run_S ?_ | refine w_box (fun _ => ?_) | refine w_al (fun _ => ?_))
  refine st_ne rfl (fun h => absurd rfl h) (fun _ => ?_)
  repeat (first | refine run_S ?_ | refine w_box (fun _ => ?_) | refine w_al (fun _ => ?_))
  refine st_ne rfl (fun h => absurd rfl h) (fun _ => ?_)
  repeat (first | refine run_S ?_ | refine w_box (fun _ => ?_) | refine w_al (fun _ => ?_))
  refine sl_call rfl rfl rfl rfl rfl rfl (fun _ => ssplit_co (kept_s kept_w _ _ _ _ uc h0) hE (Ls.up hv kept_w uc (List.Sublist.refl _)) hb1 (by omega) hbv1 (by omega) hn) ?_
  rintro v2 U2 D2 hU2 ⟨vc, vr, Dc, Dr, rfl, rfl, ⟨Pc, Cc, cs, rfl, hrc, hec⟩, ⟨P, C, vs, rfl, hrow, hel⟩, -⟩
  try rw [List.nil_append]
  refine sl_perm (M' := (b2, .var (.agg #[.int .i64 (n : Int), .int .i64 (r : Int), .int .i64 (n : Int), .slice pb (r * n) cb]), TS) :: (Dr ++ (Dc ++ M))) ?_ pms
  repeat (first | refine run_S ?_ | refine w_box (fun _ => ?_) | refine w_al (fun _ => ?_))
  refine sl_call rfl rfl rfl rfl rfl rfl (fun _ => szero_ct (⟨P, C, vs, rfl, hrow.len.2.1, hrow.at sb, hel⟩ : Ls Vq 4 n U2 _ _ _) (fun j hj => (sP j hj).mono (by omega)) (by omega)) ?_
  rintro v3 U3 D3 hU3 ⟨s, rfl, hs, rfl, rfl⟩
  try rw [List.nil_append]
  cases s
  · repeat (first | refine run_S ?_ | refine w_box (fun _ => ?_) | refine w_al (fun _ => ?_))
    exact sk_ret [] sym rfl (.cons (.tmp rfl) (.cons (.tmp rfl) .nil)) uc sb (.inl rfl) ⟨_, 12, rfl, .inr rfl, ⟨(fun h => by cases h), fun h3 => by have := hs.2 ((La.prj_sp hE).2 h3); cases this⟩, (fun h => by cases h), (fun _ => rfl), rfl⟩
  have hsp := (La.prj_sp hE).1 (hs.1 rfl)
  clear hs hrow hel
  repeat (first | refine run_S ?_ | refine w_box (fun _ => ?_) | refine w_al (fun _ => ?_))
  try refine st_anti (M' := (b2, .var (.agg #[.int .i64 (n : Int), .int .i64 (r : Int), .int .i64 (n : Int), .slice pb (r * n) cb]), TS) :: (Dc ++ M)) (ULe.refl _) sbk ?_
  refine st_loop (fun z E U' M' => ∃ (i : Nat) (cs : List Value) (Dc : MH), i ≤ r ∧ RowO TR 4 Dc Pc r Cc cs ∧ El Vq U' cs (fun i => f (q i)) ∧ E = [(32, .int .i64 (i : Int)), (31, .int .i64 (r : Int)), (30, .slice Pc r Cc), (7, .slice Pc r Cc)] ∧ ULe U2 U' ∧ M' = (b2, .var (.agg #[.int .i64 (n : Int), .int .i64 (r : Int), .int .i64 (n : Int), .slice pb (r * n) cb]), TS) :: (Dc ++ M) ∧ z = r - i) (n0 := r - 0) (E0 := [(32, .int .i64 ((0 : Nat) : Int)), (31, .int .i64 (r : Int)), (30, .slice Pc r Cc), (7, .slice Pc r Cc)]) ⟨rfl, rfl, rfl, rfl, trivial⟩ ⟨0, cs, Dc, by omega, hrc, hec, rfl, uc, rfl, rfl⟩ ?_
  clear hrc hec
  rintro z E U3 M' ⟨i, cs, Dc, hi, hrc, hec, rfl, hU3, rfl, rfl⟩
  try refine run_s ?_
  refine st_dec rfl (fun h => ?_) (fun h => ?_)
  · have hir : i < r := by omega
    have rA := hrc.at (U := U3) (M := (b2, .var (.agg #[.int .i64 (n : Int), .int .i64 (r : Int), .int .i64 (n : Int), .slice pb (r * n) cb]), TS) :: (Dc ++ M)) sb
    obtain ⟨v2, hv2⟩ := rA.at hir
    obtain ⟨x2, rfl, hx2⟩ := hec _ _ hv2
    repeat (first | refine run_S ?_ | refine w_box (fun _ => ?_) | refine w_al (fun _ => ?_))
    refine sl_y (yl_index sym rfl rfl rfl rfl rfl rfl (rA.lt hv2) (rA.get _ _ hv2).1) rfl rfl rfl rfl ?_; refine sl_y (yl_loadRs sym rfl rfl rfl rfl rfl rA hv2) rfl rfl rfl rfl ?_
    repeat (first | refine run_S ?_ | refine w_box (fun _ => ?_) | refine w_al (fun _ => ?_))
    rename_i b10
    refine sl_call rfl rfl rfl rfl rfl rfl (fun _ => (qNormal_ct (hx2.rep.up uc sb) (hx2.le (sf _ (hE.lt i hir)) (by omega))).settle) ?_
    rintro v Uh6 D hU ⟨rfl, _, _, ⟨xh6, rfl, h6, -⟩, -, -, hs⟩
    replace h6 := h6.sett hs
    clear hs
    repeat (first | refine run_S ?_ | refine w_box (fun _ => ?_) | refine w_al (fun _ => ?_))
    refine w_addr (j := i) hir (hrc.some (by omega)) ?_
    refine w_storeR (v := xh6.v) (X := (b10, .var x2.v, TR) :: (b2, .var (.agg #[.int .i64 (n : Int), .int .i64 (r : Int), .int .i64 (n : Int), .slice pb (r * n) cb]), TS) :: M) hrc pms hir (fun D3 hr3 => ?_)
    refine sl_perm (M' := (b10, .var x2.v, TR) :: (b2, .var (.agg #[.int .i64 (n : Int), .int .i64 (r : Int), .int .i64 (n : Int), .slice pb (r * n) cb]), TS) :: (D3 ++ M)) ?_ pms
    repeat (first | refine run_S ?_ | refine w_box (fun _ => ?_) | refine w_al (fun _ => ?_))
    refine sk_anti (M' := (b2, .var (.agg #[.int .i64 (n : Int), .int .i64 (r : Int), .int .i64 (n : Int), .slice pb (r * n) cb]), TS) :: (D3 ++ M)) (ULe.refl _) (List.sublist_cons_self ..) ?_
    exact sk_again (E' := [(32, .int .i64 ((i : Int) + 1)), (31, .int .i64 (r : Int)), (30, .slice Pc r Cc), (7, .slice Pc r Cc)]) (m := r - (i + 1)) ⟨rfl, rfl, rfl, rfl, trivial⟩ (by omega) ⟨i + 1, _, D3, by omega, hr3, set_ok (fun a x ha hne => (hec.up (U' := Uh6) kept_q uc) a x ha) ⟨xh6, rfl, h6⟩, rfl, uc, rfl, rfl⟩
  · have e : r = i := by omega
    subst e
    refine st_perm (M' := Dc ++ ((b2, .var (.agg #[.int .i64 (n : Int), .int .i64 (r : Int), .int .i64 (n : Int), .slice pb (r * n) cb]), TS) :: M)) pms ?_
    refine st_settleAll fun U5 hU5 hs5 => ?_
    have hco : Ls Vq 4 r U5 [] (.slice Pc r Cc) (fun i => f (q i)) := ⟨Pc, Cc, cs, rfl, hrc.len.2.1, hrc.sett hs5, hec.up kept_q uc⟩
    repeat (first | refine run_S ?_ | refine w_box (fun _ => ?_) | refine w_al (fun _ => ?_))
    exact sk_ret [] sym rfl (.cons (.tmp rfl) (.cons (.tmp rfl) .nil)) uc sb (.inl rfl) ⟨_, 0, rfl, .inl rfl, ⟨fun _ => hsp, fun _ => rfl⟩, (fun _ => hco), (fun h => by cases h), rfl⟩

theorem spair_ok {ra rb n ba bb : Nat} {va vb : Value} {A B : Nat → Nat → Rat} {qa qb : Nat → Nat} (ha : Sv (Wq ba) ra n U va A) (hb : Sv (Wq bb) rb n U vb B) (hA : La.Ech ra n A qa) (hB : La.Ech rb n B qb) (ha1 : 1 ≤ ba) (hba : ba ≤ 40000) (hb1 : 1 ≤ bb) (hbb : bb ≤ 40000) (hn : n ≤ 6) :
    Ct Tryz.prog 60 [va, vb] G U M fun v _ D => v = .int .i64 0 ∧ D = [] := by
  obtain ⟨_, rfl, pa, ca, as1, rfl, -⟩ := id ha
  obtain ⟨_, rfl, pb, cb, bs, rfl, -⟩ := id hb
  refine ct_of_st Tryz.func60 rfl rfl rfl rfl ?_
  repeat (first | refine run_S ?_ | refine w_box (fun _ => ?_) | refine w_al (fun _ => ?_))
  refine sl_call rfl rfl rfl rfl rfl rfl (fun _ => sCheck_ok (kept_s kept_w _ _ _ _ uc ha) hA ha1 hba hn) ?_
  rintro v1 U1 D1 hU1 ⟨rfl, rfl⟩
  try rw [List.nil_append]
  repeat (first | refine run_S ?_ | refine w_box (fun _ => ?_) | refine w_al (fun _ => ?_))
  refine sl_gdec rfl rfl (fun h => absurd rfl h) (fun _ => ?_)
  repeat (first | refine run_S ?_ | refine w_box (fun _ => ?_) | refine w_al (fun _ => ?_))
  refine sl_call rfl rfl rfl rfl rfl rfl (fun _ => sCheck_ok (kept_s kept_w _ _ _ _ uc hb) hB hb1 hbb hn) ?_
  rintro v2 U2 D2 hU2 ⟨rfl, rfl⟩
  try rw [List.nil_append]
  repeat (first | refine run_S ?_ | refine w_box (fun _ => ?_) | refine w_al (fun _ => ?_))
  refine st_ne rfl (fun h => absurd rfl h) (fun _ => ?_)
  repeat (first | refine run_S ?_ | refine w_box (fun _ => ?_) | refine w_al (fun _ => ?_))
  refine st_ne rfl (fun h => absurd rfl h) (fun _ => ?_)
  repeat (first | refine run_S ?_ | refine w_box (fun _ => ?_) | refine w_al (fun _ => ?_))
  exact sk_ret [] sym rfl (.cons (.tmp rfl) .nil) uc sb (.inl rfl) ⟨rfl, rfl⟩

theorem sWithin_ok {ra rb n ba bb : Nat} {va vb : Value} {A B : Nat → Nat → Rat} {qa qb : Nat → Nat} (ha : Sv (Wq ba) ra n U va A) (hb : Sv (Wq bb) rb n U vb B) (hA : La.Ech ra n A qa) (hB : La.Ech rb n B qb) (ha1 : 1 ≤ ba) (hba : ba ≤ 40000) (hb1 : 1 ≤ bb) (hbb : bb ≤ 40000) (hn : n ≤ 6) :
    Ct Tryz.prog 37 [va, vb] G U M fun v _ D => ∃ s : Bool, v = .tuple #[.bool s, .int .i64 0] ∧ (s = true ↔ ∀ i, i < ra → La.Sp rb n B (A i)) ∧ D = [] := by
  have hra := Nat.le_trans hA.le_n hn
  have hrb := Nat.le_trans hB.le_n hn
  have sA : ∀ i j, i < ra → j < n → Szq (A i j) ba := fun i j hi hj => ha.sz ha1 hi hj
  have sB : ∀ i j, i < rb → j < n → Szq (B i j) bb := fun i j hi hj => hb.sz hb1 hi hj
  obtain ⟨_, rfl, pa, ca, as1, rfl, -⟩ := id ha
  obtain ⟨_, rfl, pb, cb, bs, rfl, -⟩ := id hb
  refine ct_of_st Tryz.func37 rfl rfl rfl rfl ?_
  repeat (first | refine run_S ?_ | refine w_box (fun _ => ?_) | refine w_al (fun _ => ?_))
  rename_i b2 b3
  refine sl_call rfl rfl rfl rfl rfl rfl (fun _ => spair_ok (kept_s kept_w _ _ _ _ uc ha) (kept_s kept_w _ _ _ _ uc hb) hA hB ha1 hba hb1 hbb hn) ?_
  rintro v1 U1 D1 hU1 ⟨rfl, rfl⟩
  try rw [List.nil_append]
  repeat (first | refine run_S ?_ | refine w_box (fun _ => ?_) | refine w_al (fun _ => ?_))
  refine st_ne rfl (fun h => absurd rfl h) (fun _ => ?_)
  repeat (first | refine run_S ?_ | refine w_box (fun _ => ?_) | refine w_al (fun _ => ?_))
  try refine st_anti (M' := (b3, .var (.agg #[.int .i64 (n : Int), .int .i64 (rb : Int), .int .i64 (n : Int), .slice pb (rb * n) cb]), TS) :: (b2, .var (.agg #[.int .i64 (n : Int), .int .i64 (ra : Int), .int .i64 (n : Int), .slice pa (ra * n) ca]), TS) :: M) (ULe.refl _) sbk ?_
  refine st_loop (fun z E U' M' => ∃ (i : Nat), i ≤ ra ∧ (∀ k, k < i → La.Sp rb n B (A k)) ∧ E = [(19, .int .i64 (i : Int)), (18, .int .i64 (ra : Int)), (2, .pointer (some ⟨b2, 0, none⟩)), (3, .pointer (some ⟨b3, 0, none⟩))] ∧ ULe U1 U' ∧ M' = (b3, .var (.agg #[.int .i64 (n : Int), .int .i64 (rb : Int), .int .i64 (n : Int), .slice pb (rb * n) cb]), TS) :: (b2, .var (.agg #[.int .i64 (n : Int), .int .i64 (ra : Int), .int .i64 (n : Int), .slice pa (ra * n) ca]), TS) :: M ∧ z = ra - i) (n0 := ra - 0) (E0 := [(19, .int .i64 ((0 : Nat) : Int)), (18, .int .i64 (ra : Int)), (2, .pointer (some ⟨b2, 0, none⟩)), (3, .pointer (some ⟨b3, 0, none⟩))]) ⟨rfl, rfl, rfl, rfl, trivial⟩ ⟨0, by omega, fun k hk => absurd hk (Nat.not_lt_zero k), rfl, uc, rfl, rfl⟩ ?_
  rintro z E U2 M' ⟨i, hi, hk, rfl, hU2, rfl, rfl⟩
  try refine run_s ?_
  refine st_dec rfl (fun h => ?_) (fun h => ?_)
  · have hir : i < ra := by omega
    repeat (first | refine run_S ?_ | refine w_box (fun _ => ?_) | refine w_al (fun _ => ?_))
    refine st_draw [0, 1, 2, 3, 4, 5, 6, 7, 8, 9, 10] sym (by kernel_rfl) ?_
    repeat (first | refine run_S ?_ | refine w_box (fun _ => ?_) | refine w_al (fun _ => ?_))
    refine sl_call rfl rfl rfl rfl rfl rfl (fun _ => srow_ct (kept_m kept_w _ _ _ _ uc ha.vm) hir (by omega) (by omega)) ?_
    rintro v3 U3 D3 hU3 ⟨h3, rfl, rfl⟩
    try rw [List.nil_append]
    obtain ⟨p3, c3, s3, rfl, -⟩ := id h3
    repeat (first | refine run_S ?_ | refine w_box (fun _ => ?_) | refine w_al (fun _ => ?_))
    refine sl_call rfl rfl rfl rfl rfl rfl (fun _ => ssplit_co (kept_s kept_w _ _ _ _ uc hb) hB (Ls.up h3 kept_w uc (List.Sublist.refl _)) hb1 (by omega) ha1 (by omega) hn) ?_
    rintro v4 U4 D4 hU4 ⟨vc, vr, Dc, Dr, rfl, rfl, ⟨Pc, Cc, cs, rfl, hrc, hec⟩, ⟨P, C, vs, rfl, hrow, hel⟩, -⟩
    try rw [List.nil_append]
    refine sl_perm (M' := (b3, .var (.agg #[.int .i64 (n : Int), .int .i64 (rb : Int), .int .i64 (n : Int), .slice pb (rb * n) cb]), TS) :: (b2, .var (.agg #[.int .i64 (n : Int), .int .i64 (ra : Int), .int .i64 (n : Int), .slice pa (ra * n) ca]), TS) :: (Dr ++ (Dc ++ M))) ?_ pms
    repeat (first | refine run_S ?_ | refine w_box (fun _ => ?_) | refine w_al (fun _ => ?_))
    refine sl_call rfl rfl rfl rfl rfl rfl (fun _ => szero_ct (⟨P, C, vs, rfl, hrow.len.2.1, hrow.at sb, hel⟩ : Ls Vq 4 n U4 _ _ _) (fun j hj => (szq_prj hrb hB.lt sB (sA i · hir) hj).mono (by omega)) (by omega)) ?_
    rintro v5 U5 D5 hU5 ⟨s, rfl, hs, rfl, rfl⟩
    try rw [List.nil_append]
    cases s
    · repeat (first | refine run_S ?_ | refine w_box (fun _ => ?_) | refine w_al (fun _ => ?_))
      exact sk_ret [] sym rfl (.cons (.tmp rfl) (.cons (.tmp rfl) .nil)) uc sb (.inl rfl) ⟨false, rfl, ⟨(fun h => by cases h), fun h4 => by have := hs.2 ((La.prj_sp hB).2 (h4 i hir)); cases this⟩, rfl⟩
    · repeat (first | refine run_S ?_ | refine w_box (fun _ => ?_) | refine w_al (fun _ => ?_))
      refine sk_anti (M' := (b3, .var (.agg #[.int .i64 (n : Int), .int .i64 (rb : Int), .int .i64 (n : Int), .slice pb (rb * n) cb]), TS) :: (b2, .var (.agg #[.int .i64 (n : Int), .int .i64 (ra : Int), .int .i64 (n : Int), .slice pa (ra * n) ca]), TS) :: M) (ULe.refl _) sbk ?_
      exact sk_again (E' := [(19, .int .i64 ((i : Int) + 1)), (18, .int .i64 (ra : Int)), (2, .pointer (some ⟨b2, 0, none⟩)), (3, .pointer (some ⟨b3, 0, none⟩))]) (m := ra - (i + 1)) ⟨rfl, rfl, rfl, rfl, trivial⟩ (by omega) ⟨i + 1, by omega, (fun k hk' => by
        rcases Nat.lt_or_eq_of_le (Nat.le_of_lt_succ hk') with h5 | h5
        · exact hk k h5
        · rw [h5]; exact (La.prj_sp hB).1 (hs.1 rfl)), rfl, uc, rfl, rfl⟩
  · have e : ra = i := by omega
    subst e
    repeat (first | refine run_S ?_ | refine w_box (fun _ => ?_) | refine w_al (fun _ => ?_))
    exact sk_ret [] sym rfl (.cons (.tmp rfl) (.cons (.tmp rfl) .nil)) uc sb (.inl rfl) ⟨true, rfl, ⟨fun _ => hk, fun _ => rfl⟩, rfl⟩

end Go.Proofs.YtocjmbilepbokaaGreat

/- Walks of subspace: the rows of two bases, their span, sums, annihilators, intersections. -/
namespace Go.Proofs.YtocjmbilepbokaaGreat
open Go.Hp
variable {G : World} {U U' : UH} {M M' : MH}

theorem _root_.Go.Hp.Ls.wr {r n b : Nat} {v : Value} {A : Nat → Nat → Rat} (h : Ls (Wr b n) 1 r U M v A) (hn : n ≤ 1000) : Ls (Rq b) 1 r U M v (fun k => (n, A k)) := by
  obtain ⟨p, c, vs, h1, h0, h2, h3⟩ := h
  exact ⟨p, c, vs, h1, h0, h2, fun k x hk => ⟨Nat.le_trans hn (by decide), h3 k x hk⟩⟩

theorem mFromRows_ok {m n b : Nat} {vr : Value} {A : Nat → Nat → Rat} (hv : Ls (Wr b n) 1 m U M vr A) (hb : b ≤ 10000000000) (hm : m ≤ 1000) (hn : n ≤ 1000) :
    Ct Tryz.prog 88 [.int .i64 (n : Int), vr] G U M fun v U' D => ∃ vM, v = .tuple #[vM, .int .i64 0] ∧ Vm Vq m n U' vM A ∧ D = [] :=
  (mFromRows_ctM (hv.wr hn) hb (by omega)).mono fun _ _ _ _ ⟨vM, e, h1, h2, _, h4⟩ => by
    obtain ⟨rfl, h5⟩ := h2 ⟨⟨by omega, by omega⟩, by omega, fun _ _ => rfl⟩
    exact ⟨vM, h1, h5, h4⟩

theorem srowsOf_co {ra rb n b : Nat} {va vb : Value} {A B : Nat → Nat → Rat} (ha : Sv (Wq b) ra n U va A) (hb : Sv (Wq b) rb n U vb B) (hra : ra ≤ 6) (hrb : rb ≤ 6) (hn : n ≤ 6) :
    Ct Tryz.prog 63 [va, vb] G U M fun v U' D => Lo (Wr b n) TRs 1 (ra + rb) U' D v (La.stack ra A B) ∧ ULe U U' := by
  obtain ⟨_, rfl, pa, ca, as1, rfl, -⟩ := id ha
  obtain ⟨_, rfl, pb, cb, bs, rfl, -⟩ := id hb
  refine ct_of_st Tryz.func63 rfl rfl rfl rfl ?_
  repeat (first | refine run_S ?_ | refine w_box (fun _ => ?_) | refine w_al (fun _ => ?_))
  rename_i b2 b3
  refine sl_bslice (vs := [.agg #[.int .i64 (n : Int), .int .i64 (ra : Int), .int .i64 (n : Int), .slice pa (ra * n) ca], .agg #[.int .i64 (n : Int), .int .i64 (rb : Int), .int .i64 (n : Int), .slice pb (rb * n) cb]]) sym rfl rfl rfl rfl rfl rfl (all_size rfl) rfl rfl rfl rfl rfl rfl (fun bl => ?_)
  repeat (first | refine run_S ?_ | refine w_box (fun _ => ?_) | refine w_al (fun _ => ?_))
  try refine st_anti (M' := (bl, .arr [.agg #[.int .i64 (n : Int), .int .i64 (ra : Int), .int .i64 (n : Int), .slice pa (ra * n) ca], .agg #[.int .i64 (n : Int), .int .i64 (rb : Int), .int .i64 (n : Int), .slice pb (rb * n) cb]], TS) :: (b3, .var (.agg #[.int .i64 (n : Int), .int .i64 (rb : Int), .int .i64 (n : Int), .slice pb (rb * n) cb]), TS) :: (b2, .var (.agg #[.int .i64 (n : Int), .int .i64 (ra : Int), .int .i64 (n : Int), .slice pa (ra * n) ca]), TS) :: (([]) ++ M)) (ULe.refl _) sbk ?_
  refine st_loop (fun z E U' M' => ∃ (k m : Nat) (P : Option Addr) (C : Nat) (vs : List Value) (D : MH), k ≤ 2 ∧ m = (if k = 0 then 0 else if k = 1 then ra else ra + rb) ∧ RowO TRs 1 D P m C vs ∧ El (Wr b n) U' vs (La.stack ra A B) ∧ E = [(13, .int .i64 (k : Int)), (12, .int .i64 2), (11, .slice (some ⟨bl, 0, none⟩) 2 2), (5, .slice P m C)] ∧ ULe U U' ∧ M' = (bl, .arr [.agg #[.int .i64 (n : Int), .int .i64 (ra : Int), .int .i64 (n : Int), .slice pa (ra * n) ca], .agg #[.int .i64 (n : Int), .int .i64 (rb : Int), .int .i64 (n : Int), .slice pb (rb * n) cb]], TS) :: (b3, .var (.agg #[.int .i64 (n : Int), .int .i64 (rb : Int), .int .i64 (n : Int), .slice pb (rb * n) cb]), TS) :: (b2, .var (.agg #[.int .i64 (n : Int), .int .i64 (ra : Int), .int .i64 (n : Int), .slice pa (ra * n) ca]), TS) :: (D ++ M) ∧ z = 2 - k) (n0 := 2 - 0) (E0 := [(13, .int .i64 ((0 : Nat) : Int)), (12, .int .i64 2), (11, .slice (some ⟨bl, 0, none⟩) 2 2), (5, .slice none 0 0)]) ⟨rfl, rfl, rfl, rfl, trivial⟩ ⟨0, 0, none, 0, [], [], by omega, rfl, RowO.nil, El.nil, rfl, uc, rfl, rfl⟩ ?_
  rintro z E U1 M' ⟨k, m, P, C, vs, D, hk, hm, hrow, hel, rfl, hU1, rfl, rfl⟩
  try refine run_s ?_
  refine st_dec rfl (fun h => ?_) (fun h => ?_)
  · have hk2 : k < 2 := by omega
    have rl := (RowO.mk (e := TS) (s := 4) (b := bl) (n := 2) (vs := [.agg #[.int .i64 (n : Int), .int .i64 (ra : Int), .int .i64 (n : Int), .slice pa (ra * n) ca], .agg #[.int .i64 (n : Int), .int .i64 (rb : Int), .int .i64 (n : Int), .slice pb (rb * n) cb]]) rfl (all_size rfl) (by omega)).at (U := U1) (M := (bl, .arr [.agg #[.int .i64 (n : Int), .int .i64 (ra : Int), .int .i64 (n : Int), .slice pa (ra * n) ca], .agg #[.int .i64 (n : Int), .int .i64 (rb : Int), .int .i64 (n : Int), .slice pb (rb * n) cb]], TS) :: (b3, .var (.agg #[.int .i64 (n : Int), .int .i64 (rb : Int), .int .i64 (n : Int), .slice pb (rb * n) cb]), TS) :: (b2, .var (.agg #[.int .i64 (n : Int), .int .i64 (ra : Int), .int .i64 (n : Int), .slice pa (ra * n) ca]), TS) :: (D ++ M)) sb
    have hg : ∃ (rk : Nat) (pk : Option Addr) (ck : Nat) (Bk : Nat → Nat → Rat), ([.agg #[.int .i64 (n : Int), .int .i64 (ra : Int), .int .i64 (n : Int), .slice pa (ra * n) ca], .agg #[.int .i64 (n : Int), .int .i64 (rb : Int), .int .i64 (n : Int), .slice pb (rb * n) cb]] : List Value)[k]? = some (.agg #[.int .i64 (n : Int), .int .i64 (rk : Int), .int .i64 (n : Int), .slice pk (rk * n) ck]) ∧ Sv (Wq b) rk n U1 (.agg #[.int .i64 (n : Int), .int .i64 (rk : Int), .int .i64 (n : Int), .slice pk (rk * n) ck]) Bk ∧ (∀ i, i < rk → La.stack ra A B (m + i) = Bk i) ∧ m + rk = (if k + 1 = 0 then 0 else if k + 1 = 1 then ra else ra + rb) ∧ m ≤ 6 ∧ rk ≤ 6 := by
      rcases (show k = 0 ∨ k = 1 by omega) with rfl | rfl
      · rw [if_pos rfl] at hm
        subst hm
        exact ⟨ra, pa, ca, A, rfl, kept_s kept_w _ _ _ _ uc ha, fun i hi => by rw [Nat.zero_add, La.stack_lt hi], by rw [if_neg (by omega), if_pos rfl, Nat.zero_add], by omega, hra⟩
      · rw [if_neg (by omega), if_pos rfl] at hm
        subst hm
        exact ⟨rb, pb, cb, B, rfl, kept_s kept_w _ _ _ _ uc hb, fun i hi => La.stack_add, by rw [if_neg (by omega), if_neg (by omega)], hra, hrb⟩
    obtain ⟨rk, pk, ck, Bk, hv1, hsk, hst, hnext, hm6, hrk⟩ := hg
    clear hm
    repeat (first | refine run_S ?_ | refine w_box (fun _ => ?_) | refine w_al (fun _ => ?_))
    refine sl_y (yl_index sym rfl rfl rfl rfl rfl rfl (rl.lt hv1) (rl.get _ _ hv1).1) rfl rfl rfl rfl ?_; refine sl_y (yl_loadRs sym rfl rfl rfl rfl rfl rl hv1) rfl rfl rfl rfl ?_
    repeat (first | refine run_S ?_ | refine w_box (fun _ => ?_) | refine w_al (fun _ => ?_))
    rename_i b7
    try refine st_anti (M' := (b7, .var (.agg #[.int .i64 (n : Int), .int .i64 (rk : Int), .int .i64 (n : Int), .slice pk (rk * n) ck]), TS) :: (bl, .arr [.agg #[.int .i64 (n : Int), .int .i64 (ra : Int), .int .i64 (n : Int), .slice pa (ra * n) ca], .agg #[.int .i64 (n : Int), .int .i64 (rb : Int), .int .i64 (n : Int), .slice pb (rb * n) cb]], TS) :: (b3, .var (.agg #[.int .i64 (n : Int), .int .i64 (rb : Int), .int .i64 (n : Int), .slice pb (rb * n) cb]), TS) :: (b2, .var (.agg #[.int .i64 (n : Int), .int .i64 (ra : Int), .int .i64 (n : Int), .slice pa (ra * n) ca]), TS) :: (D ++ M)) (ULe.refl _) sbk ?_
    refine st_loop (fun z E U' M' => ∃ (i : Nat) (P : Option Addr) (C : Nat) (vs : List Value) (D : MH), i ≤ rk ∧ RowO TRs 1 D P (m + i) C vs ∧ El (Wr b n) U' vs (La.stack ra A B) ∧ E = [(20, .int .i64 (i : Int)), (19, .int .i64 (rk : Int)), (5, .slice P (m + i) C), (7, .pointer (some ⟨b7, 0, none⟩)), (13, .int .i64 (k : Int)), (12, .int .i64 2), (11, .slice (some ⟨bl, 0, none⟩) 2 2)] ∧ ULe U1 U' ∧ M' = (b7, .var (.agg #[.int .i64 (n : Int), .int .i64 (rk : Int), .int .i64 (n : Int), .slice pk (rk * n) ck]), TS) :: (bl, .arr [.agg #[.int .i64 (n : Int), .int .i64 (ra : Int), .int .i64 (n : Int), .slice pa (ra * n) ca], .agg #[.int .i64 (n : Int), .int .i64 (rb : Int), .int .i64 (n : Int), .slice pb (rb * n) cb]], TS) :: (b3, .var (.agg #[.int .i64 (n : Int), .int .i64 (rb : Int), .int .i64 (n : Int), .slice pb (rb * n) cb]), TS) :: (b2, .var (.agg #[.int .i64 (n : Int), .int .i64 (ra : Int), .int .i64 (n : Int), .slice pa (ra * n) ca]), TS) :: (D ++ M) ∧ z = rk - i) (n0 := rk - 0) (E0 := [(20, .int .i64 ((0 : Nat) : Int)), (19, .int .i64 (rk : Int)), (5, .slice P (m + 0) C), (7, .pointer (some ⟨b7, 0, none⟩)), (13, .int .i64 (k : Int)), (12, .int .i64 2), (11, .slice (some ⟨bl, 0, none⟩) 2 2)]) ⟨rfl, rfl, rfl, rfl, rfl, rfl, rfl, trivial⟩ ⟨0, P, C, vs, D, by omega, hrow, hel, rfl, uc, rfl, rfl⟩ ?_
    clear hrow hel
    rintro z E U2 M' ⟨i, P, C, vs, D, hi, hrow, hel, rfl, hU2, rfl, rfl⟩
    try refine run_s ?_
    refine st_dec rfl (fun h => ?_) (fun h => ?_)
    · have hir : i < rk := by omega
      repeat (first | refine run_S ?_ | refine w_box (fun _ => ?_) | refine w_al (fun _ => ?_))
      refine sl_call rfl rfl rfl rfl rfl rfl (fun _ => srow_ct (kept_m kept_w _ _ _ _ uc hsk.vm) hir (by omega) (by omega)) ?_
      rintro v3 U3 D3 hU3 ⟨h3, rfl, rfl⟩
      try rw [List.nil_append]
      obtain ⟨p3, c3, s3, rfl, h3'⟩ := id h3
      repeat (first | refine run_S ?_ | refine w_box (fun _ => ?_) | refine w_al (fun _ => ?_))
      refine w_push hrow (perm4 (D := _)).symm (fun bhr2 phr2 chr2 Dhr2 hr2 => ?_)
      refine sl_perm ?_ (perm4 (D := Dhr2))
      repeat (first | refine run_S ?_ | refine w_box (fun _ => ?_) | refine w_al (fun _ => ?_))
      exact sk_again (E' := [(20, .int .i64 ((i : Int) + 1)), (19, .int .i64 (rk : Int)), (5, .slice phr2 (m + (i + 1)) chr2), (7, .pointer (some ⟨b7, 0, none⟩)), (13, .int .i64 (k : Int)), (12, .int .i64 2), (11, .slice (some ⟨bl, 0, none⟩) 2 2)]) (m := rk - (i + 1)) ⟨rfl, rfl, rfl, rfl, rfl, rfl, rfl, trivial⟩ (by omega) ⟨i + 1, phr2, chr2, _, Dhr2, by omega, hr2, snoc_ok hrow.len.1 hel (by rw [hst i hir]; exact h3), rfl, uc, rfl, rfl⟩
    · have e : rk = i := by omega
      subst e
      repeat (first | refine run_S ?_ | refine w_box (fun _ => ?_) | refine w_al (fun _ => ?_))
      refine sk_anti (M' := (bl, .arr [.agg #[.int .i64 (n : Int), .int .i64 (ra : Int), .int .i64 (n : Int), .slice pa (ra * n) ca], .agg #[.int .i64 (n : Int), .int .i64 (rb : Int), .int .i64 (n : Int), .slice pb (rb * n) cb]], TS) :: (b3, .var (.agg #[.int .i64 (n : Int), .int .i64 (rb : Int), .int .i64 (n : Int), .slice pb (rb * n) cb]), TS) :: (b2, .var (.agg #[.int .i64 (n : Int), .int .i64 (ra : Int), .int .i64 (n : Int), .slice pa (ra * n) ca]), TS) :: (D ++ M)) (ULe.refl _) (List.sublist_cons_self ..) ?_
      exact sk_again (E' := [(13, .int .i64 ((k : Int) + 1)), (12, .int .i64 2), (11, .slice (some ⟨bl, 0, none⟩) 2 2), (5, .slice P (m + rk) C)]) (m := 2 - (k + 1)) ⟨rfl, rfl, rfl, rfl, trivial⟩ (by omega) ⟨k + 1, m + rk, P, C, vs, D, by omega, hnext, hrow, hel, rfl, uc, rfl, rfl⟩
  · have e : k = 2 := by omega
    subst e
    rw [if_neg (by omega), if_neg (by omega)] at hm
    subst hm
    repeat (first | refine run_S ?_ | refine w_box (fun _ => ?_) | refine w_al (fun _ => ?_))
    exact sk_ret D sym rfl (.cons (.tmp rfl) .nil) uc sb (.inl rfl) ⟨⟨P, C, vs, rfl, hrow, hel⟩, uc⟩

theorem sreduced_ct {m n b : Nat} {vr : Value} {A : Nat → Nat → Rat} (hv : Ls (Wr b n) 1 m U M vr A) (hb1 : 1 ≤ b) (hb : b ≤ 40000) (hm : m ≤ 1000) (hn : n ≤ 6) :
    Ct Tryz.prog 62 [.int .i64 (n : Int), vr] G U M fun v U' D => ∃ (r : Nat) (R : Nat → Nat → Rat) (p : Nat → Nat), Sv Vq r n U' v R ∧ La.Ech r n R p ∧ La.Same r m n R A ∧ D = [] := by
  obtain ⟨pv, cv, vs0, rfl, hcv, rv, ev⟩ := id hv
  have hz2 : ∀ i j, i < m → j < n → Szq (A i j) b := fun i j hi hj => by
    obtain ⟨x, hx⟩ := rv.at hi
    exact (ev _ _ hx).sz hb1 hj
  have one : ∀ v ∈ vs0, v.cells.toList.all Value.oneCell' = true := El.ones ev fun _ _ h => by
    obtain ⟨_, _, _, rfl, -⟩ := h; rfl
  refine ct_of_st Tryz.func62 rfl rfl rfl rfl ?_
  repeat (first | refine run_S ?_ | refine w_box (fun _ => ?_) | refine w_al (fun _ => ?_))
  rename_i b4
  refine sl_call rfl rfl rfl rfl rfl rfl (fun _ => sZero_ct (n := n) (by omega)) ?_
  rintro v1 U1 D1 hU1 ⟨_, rfl, ⟨_, rfl, p1, c1, s1, rfl, h1⟩, rfl⟩
  try rw [List.nil_append]
  have hz : Sv Vq 0 n U1 (.agg #[.int .i64 (n : Int), .int .i64 ((0 : Nat) : Int), .int .i64 (n : Int), .slice p1 (0 * n) c1]) (fun _ _ => 0) := ⟨_, rfl, p1, c1, s1, rfl, h1⟩
  repeat (first | refine run_S ?_ | refine w_box (fun _ => ?_) | refine w_al (fun _ => ?_))
  rename_i b5
  try refine st_anti (M' := (b5, .var (.agg #[.int .i64 (n : Int), .int .i64 ((0 : Nat) : Int), .int .i64 (n : Int), .slice p1 (0 * n) c1]), TS) :: (b4, .var (.agg #[.int .i64 0, .int .i64 0, .int .i64 0, .slice none 0 0]), TS) :: M) (ULe.refl _) sbk ?_
  refine st_loop (fun z E U' M' => ∃ (k : Nat) (Q : Option Addr) (CQ r : Nat) (R : Nat → Nat → Rat) (p : Nat → Nat) (po : Option Addr) (co : Nat), (k = 0 ∨ (k = m ∧ r = 0 ∧ Q = pv ∧ CQ = cv)) ∧ Sv Vq r n U' (.agg #[.int .i64 (n : Int), .int .i64 (r : Int), .int .i64 (n : Int), .slice po (r * n) co]) R ∧ La.Ech r n R p ∧ La.Same r (m - k) n R A ∧ E = [(0, .int .i64 (n : Int)), (1, .slice Q k CQ), (5, .pointer (some ⟨b5, 0, none⟩)), (4, .pointer (some ⟨b4, 0, none⟩))] ∧ ULe U1 U' ∧ M' = (b5, .var (.agg #[.int .i64 (n : Int), .int .i64 (r : Int), .int .i64 (n : Int), .slice po (r * n) co]), TS) :: (b4, .var (.agg #[.int .i64 0, .int .i64 0, .int .i64 0, .slice none 0 0]), TS) :: M ∧ z = k) (n0 := m) (E0 := [(0, .int .i64 (n : Int)), (1, .slice pv m cv), (5, .pointer (some ⟨b5, 0, none⟩)), (4, .pointer (some ⟨b4, 0, none⟩))]) ⟨rfl, rfl, rfl, rfl, trivial⟩ ⟨m, pv, cv, 0, fun _ _ => 0, id, p1, c1, .inr ⟨rfl, rfl, rfl, rfl⟩, hz, ⟨(fun i hi => absurd hi (Nat.not_lt_zero i)), (fun i k _ hk => absurd hk (Nat.not_lt_zero k)), (fun i k hi => absurd hi (Nat.not_lt_zero i)), (fun i j hi => absurd hi (Nat.not_lt_zero i))⟩, ⟨(fun i hi => absurd hi (Nat.not_lt_zero i)), (fun i hi => by omega)⟩, rfl, uc, rfl, rfl⟩ ?_
  rintro z E U2 M' ⟨k, Q, CQ, r, R, p, po, co, hk, hS, hE, hs, rfl, hU2, rfl, hzL1⟩
  try refine run_s ?_
  refine st_dec rfl (fun h => ?_) (fun h => ?_)
  · obtain ⟨hkm, hr0, hQ, hC⟩ : k = m ∧ r = 0 ∧ Q = pv ∧ CQ = cv := by
      rcases hk with h2 | h2
      · omega
      · exact h2
    subst hkm hr0 hQ hC
    repeat (first | refine run_S ?_ | refine w_box (fun _ => ?_) | refine w_al (fun _ => ?_))
    rw [if_neg (by omega)]
    repeat (first | refine run_S ?_ | refine w_box (fun _ => ?_) | refine w_al (fun _ => ?_))
    try refine st_anti (M' := (b5, .var (.agg #[.int .i64 (n : Int), .int .i64 ((0 : Nat) : Int), .int .i64 (n : Int), .slice po (0 * n) co]), TS) :: (b4, .var (.agg #[.int .i64 0, .int .i64 0, .int .i64 0, .slice none 0 0]), TS) :: M) (ULe.refl _) sbk ?_
    refine st_loop (fun z E U' M' => ∃ (i : Nat), i = 0 ∧ E = [(30, .int .i64 (i : Int)), (29, .int .i64 ((0 : Nat) : Int)), (8, .slice none 0 0), (7, .int .i64 (k : Int)), (0, .int .i64 (n : Int)), (1, .slice Q k CQ), (5, .pointer (some ⟨b5, 0, none⟩)), (4, .pointer (some ⟨b4, 0, none⟩))] ∧ ULe U2 U' ∧ M' = (b5, .var (.agg #[.int .i64 (n : Int), .int .i64 ((0 : Nat) : Int), .int .i64 (n : Int), .slice po (0 * n) co]), TS) :: (b4, .var (.agg #[.int .i64 0, .int .i64 0, .int .i64 0, .slice none 0 0]), TS) :: M ∧ z = 1) (n0 := 1) (E0 := [(30, .int .i64 ((0 : Nat) : Int)), (29, .int .i64 ((0 : Nat) : Int)), (8, .slice none 0 0), (7, .int .i64 (k : Int)), (0, .int .i64 (n : Int)), (1, .slice Q k CQ), (5, .pointer (some ⟨b5, 0, none⟩)), (4, .pointer (some ⟨b4, 0, none⟩))]) ⟨rfl, rfl, rfl, rfl, rfl, rfl, rfl, rfl, trivial⟩ ⟨0, rfl, rfl, uc, rfl, rfl⟩ ?_
    rintro z E U3 M' ⟨i, hi, rfl, hU3, rfl, hzL2⟩
    try refine run_s ?_
    refine st_dec rfl (fun h => absurd h (by omega)) (fun h2 => ?_)
    repeat (first | refine run_S ?_ | refine w_box (fun _ => ?_) | refine w_al (fun _ => ?_))
    refine st_eq rfl (fun h => absurd h (by omega)) (fun h2 => ?_)
    repeat (first | refine run_S ?_ | refine w_box (fun _ => ?_) | refine w_al (fun _ => ?_))
    refine sl_y (yl_sliceTo (h := k) sym rfl rfl rfl rfl rfl rfl hcv) rfl rfl rfl rfl ?_
    refine w_app (X := (b5, .var (.agg #[.int .i64 (n : Int), .int .i64 ((0 : Nat) : Int), .int .i64 (n : Int), .slice po (0 * n) co]), TS) :: (b4, .var (.agg #[.int .i64 0, .int .i64 0, .int .i64 0, .slice none 0 0]), TS) :: M) RowO.nil (List.Perm.refl _) (rv.up uc sb) one (fun p3 c3 D3 hr3 => ?_)
    have e0 : 0 + k = k := Nat.zero_add k
    rw [e0, List.nil_append] at hr3
    rw [e0]
    refine sl_perm ?_ (perm2 (D := D3))
    repeat (first | refine run_S ?_ | refine w_box (fun _ => ?_) | refine w_al (fun _ => ?_))
    refine sl_call rfl rfl rfl rfl rfl rfl (fun _ => mFromRows_ok (⟨p3, c3, vs0, rfl, hr3.len.2.1, hr3.at sb, ev.up kept_wr uc⟩ : Ls (Wr b n) 1 k U3 _ _ A) (by omega) hm (by omega)) ?_
    rintro v4 U4 D4 hU4 ⟨_, rfl, h4, rfl⟩
    try rw [List.nil_append]
    obtain ⟨_, rfl, p4, c4, s4, rfl, -⟩ := id h4
    repeat (first | refine run_S ?_ | refine w_box (fun _ => ?_) | refine w_al (fun _ => ?_))
    rename_i b10
    refine sl_call rfl rfl rfl rfl rfl rfl (fun _ => sSpan_ct (b := b) ((kept_m kept_q _ _ _ _ uc h4).w fun i j hi hj => hz2 i j hi hj) hb1 hb hm hn) ?_
    rintro v5 U5 D5 hU5 ⟨r5, R5, q5, _, rfl, hS5, hE5, hs5, rfl⟩
    try rw [List.nil_append]
    obtain ⟨_, rfl, p5, c5, s5, rfl, -⟩ := id hS5
    repeat (first | refine run_S ?_ | refine w_box (fun _ => ?_) | refine w_al (fun _ => ?_))
    refine sl_y (yl_slice (l := k) (h := k) sym rfl rfl rfl rfl (.inr ⟨_, _, _, rfl, rfl, rfl⟩) (.inl ⟨rfl, rfl⟩) (Nat.le_refl _) hcv) rfl rfl rfl rfl ?_
    rw [Nat.sub_self]
    generalize (if CQ = k then Q else Q.map (·.add (k * 1))) = Q6
    repeat (first | refine run_S ?_ | refine w_box (fun _ => ?_) | refine w_al (fun _ => ?_))
    refine sk_anti (M' := (b5, .var (.agg #[.int .i64 (n : Int), .int .i64 (r5 : Int), .int .i64 (n : Int), .slice p5 (r5 * n) c5]), TS) :: (b4, .var (.agg #[.int .i64 0, .int .i64 0, .int .i64 0, .slice none 0 0]), TS) :: M) (ULe.refl _) sbk ?_
    exact sk_again (E' := [(0, .int .i64 (n : Int)), (1, .slice Q6 0 (CQ - k)), (5, .pointer (some ⟨b5, 0, none⟩)), (4, .pointer (some ⟨b4, 0, none⟩))]) (m := 0) ⟨rfl, rfl, rfl, rfl, trivial⟩ (by omega) ⟨0, Q6, CQ - k, r5, R5, q5, p5, c5, .inl rfl, hS5, hE5, by rw [Nat.sub_zero]; exact hs5, rfl, uc, rfl, rfl⟩
  · obtain rfl : k = 0 := by omega
    rw [Nat.sub_zero] at hs
    obtain ⟨_, he, p5, c5, s5, he2, -⟩ := id hS
    repeat (first | refine run_S ?_ | refine w_box (fun _ => ?_) | refine w_al (fun _ => ?_))
    refine sk_ret [] sym rfl (.cons (.cell 1 rfl rfl rfl) .nil) uc sb (.inl rfl) ?_
    exact ⟨r, R, p, hS, hE, hs, rfl⟩

end Go.Proofs.YtocjmbilepbokaaGreat
