/- The law of layer 2 on memory. -/
import Derived.Test.YtcndgdjelopmaaaB81
namespace Go.Proofs.Ytcndgdjelopmaaa
open Go.Hp
variable {G : World} {U : UH} {M : MH}

theorem bSameRat_cd {x y : QV} {l1 l2 : List Nat} (h1 : Dig U M x.num.p x.num.n x.num.c l1) (h2 : Dig U M y.num.p y.num.n y.num.c l1) (h3 : Dig U M x.den.p x.den.n x.den.c l2) (h4 : Dig U M y.den.p y.den.n y.den.c l2) (h5 : x.num.neg = y.num.neg) (h6 : x.den.neg = y.den.neg) :
    Ct Try.prog 47 [x.v, y.v] G U M fun v U' D => v = .bool true ∧ U = U' ∧ D = [] := by
  refine ct_of_st Try.func47 rfl rfl rfl rfl ?_
  repeat (first | refine run_S ?_ | refine w_box (fun _ => ?_) | refine w_al (fun _ => ?_))
  refine sl_call rfl rfl rfl rfl rfl rfl (fun _ => bSame_cd (x := x.num) (y := y.num) (h1.up (ULe.refl _) sb) (h2.up (ULe.refl _) sb)) ?_
  rintro v U' D hU ⟨rfl, rfl, rfl⟩
  repeat (first | refine run_S ?_ | refine w_box (fun _ => ?_) | refine w_al (fun _ => ?_))
  rw [decide_eq_true ⟨h5, rfl⟩]
  repeat (first | refine run_S ?_ | refine w_box (fun _ => ?_) | refine w_al (fun _ => ?_))
  refine sl_call rfl rfl rfl rfl rfl rfl (fun _ => bSame_cd (x := x.den) (y := y.den) (h3.up (ULe.refl _) sb) (h4.up (ULe.refl _) sb)) ?_
  rintro v U' D hU ⟨rfl, rfl, rfl⟩
  repeat (first | refine run_S ?_ | refine w_box (fun _ => ?_) | refine w_al (fun _ => ?_))
  rw [decide_eq_true ⟨h6, rfl⟩]
  exact sk_ret [] sym rfl (.cons (.tmp rfl) .nil) (ULe.refl _) sb (.inl rfl) ⟨rfl, rfl, rfl⟩

theorem pair_get : ∀ {qs : List QV} {i : Nat} {x : QV}, qs[i]? = some x → (qs.flatMap fun x => [x.num, x.den])[2 * i]? = some x.num ∧ (qs.flatMap fun x => [x.num, x.den])[2 * i + 1]? = some x.den
  | [], i, x, h => by simp at h
  | y :: qs, 0, x, h => by simp at h; subst h; exact ⟨rfl, rfl⟩
  | y :: qs, i + 1, x, h => by
    rw [List.getElem?_cons_succ] at h
    have := pair_get h
    rw [List.flatMap_cons, show 2 * (i + 1) = 2 * i + 1 + 1 by omega]
    exact this

theorem cells_num {bl i tb : Nat} {qs : List QV} {x : QV} {X : MH} (hx : qs[i]? = some x) : ∀ (G : World) (w : World), Mem G U ((bl, .arr (qs.map QV.v), tb) :: X) w → ∀ (j : Nat) (v : Value), [Value.bool x.num.neg, .slice x.num.p x.num.n x.num.c][j]? = some v → w.cell? ⟨bl, i * 4 + j, none⟩ = some v := by
  intro G w hw j v hv
  have hj := (List.getElem?_eq_some_iff.1 hv).1
  simp only [List.length_cons, List.length_nil] at hj
  rw [qvs_cell hx (by omega) hw]
  rcases show j = 0 ∨ j = 1 by omega with rfl | rfl <;> exact hv
theorem cells_den {bl i tb : Nat} {qs : List QV} {x : QV} {X : MH} (hx : qs[i]? = some x) : ∀ (G : World) (w : World), Mem G U ((bl, .arr (qs.map QV.v), tb) :: X) w → ∀ (j : Nat) (v : Value), [Value.bool x.den.neg, .slice x.den.p x.den.n x.den.c][j]? = some v → w.cell? ⟨bl, i * 4 + 2 + j, none⟩ = some v := by
  intro G w hw j v hv
  have hj := (List.getElem?_eq_some_iff.1 hv).1
  simp only [List.length_cons, List.length_nil] at hj
  rw [Nat.add_assoc, qvs_cell hx (by omega) hw]
  rcases show j = 0 ∨ j = 1 by omega with rfl | rfl <;> exact hv

theorem shapeQ {α : Type} {e x1 x2 x3 x4 x5 x6 : α} {n1 n2 n3 n4 n5 n6 n7 n8 d1 d2 d3 d4 d5 d6 d7 d8 T : List α} :
    (e :: x1 :: x2 :: x3 :: x4 :: x5 :: x6 :: ((d8 ++ n8) ++ ((d6 ++ n6) ++ ((d5 ++ n5) ++ ((d4 ++ n4) ++ ((d3 ++ n3) ++ ((d2 ++ n2) ++ ((d1 ++ n1) ++ ((d7 ++ n7) ++ T))))))))).Perm
      (e :: ([x1, x2, x3, x4, x5, x6] ++ ([n1, d1, n2, d2, n3, d3, n4, d4, n5, d5, n6, d6, n7, d7, n8, d8].flatten ++ T))) :=
  perm_sum (by
    intro f
    simp only [List.map_append, List.map_cons, List.sum_append, List.sum_cons, List.flatten_cons, List.flatten_nil, List.cons_append, List.nil_append, List.map_nil, List.sum_nil]
    omega)

theorem RationalMemory_ct {a b : QV} {p q : Rat} (ha : a.rep U M p) (hb : b.rep U M q) :
    Ct Try.prog 8 [a.v, b.v] G U M fun v _ _ => v = .bool true := by
  refine ct_of_st Try.func8 rfl rfl rfl rfl ?_
  repeat (first | refine run_S ?_ | refine w_box (fun _ => ?_) | refine w_al (fun _ => ?_))
  rename_i b2 b3
  refine sl_call rfl rfl rfl rfl rfl rfl (fun _ => awake2_ct) ?_
  rintro v U1 D hU ⟨rfl, -, rfl⟩
  repeat (first | refine run_S ?_ | refine w_box (fun _ => ?_) | refine w_al (fun _ => ?_))
  refine sl_bslice (vs := [a, b].map QV.v) sym rfl rfl rfl rfl rfl rfl qvs_size rfl rfl rfl rfl rfl rfl (fun bo => ?_)
  repeat (first | refine run_S ?_ | refine w_box (fun _ => ?_) | refine w_al (fun _ => ?_))
  refine sl_call rfl rfl rfl rfl rfl rfl (fun _ => long2_ct (qvs_head.app _) rfl (by decide)) ?_
  rintro v U' D hU' ⟨r, rfl, hr, rfl, rfl⟩
  repeat (first | refine run_S ?_ | refine w_box (fun _ => ?_) | refine w_al (fun _ => ?_))
  cases r
  · have hna := hr rfl a (by simp)
    have hnb := hr rfl b (by simp)
    obtain ⟨na, da, ⟨la, hla, rfl⟩, ⟨lb, hlb, rfl⟩, hpa⟩ := id ha
    obtain ⟨nb, db, ⟨lc, hlc, rfl⟩, ⟨le, hle, rfl⟩, hqb⟩ := id hb
    repeat (first | refine run_S ?_ | refine w_box (fun _ => ?_) | refine w_al (fun _ => ?_))
    refine st_draw [0, 2, 1, 3, 4, 5, 6, 7] sym (by kernel_rfl) ?_
    repeat (first | refine run_S ?_ | refine w_box (fun _ => ?_) | refine w_al (fun _ => ?_))
    refine sl_call rfl rfl rfl rfl rfl rfl (fun _ => bCopyRat_ct (x := a) (hla.up uc sb) (by omega) (hlb.up uc sb) (by omega)) ?_
    rintro v U2 D1 hU2 ⟨p1, c1, p2, c2, rfl, hx, rfl⟩
    refine sl_perm ?_ (perm3 (D := D1))
    repeat (first | refine run_S ?_ | refine w_box (fun _ => ?_) | refine w_al (fun _ => ?_))
    refine sl_call rfl rfl rfl rfl rfl rfl (fun _ => bCopyRat_ct (x := b) (hlc.up uc sb) (by omega) (hle.up uc sb) (by omega)) ?_
    rintro v U2 D2 hU2 ⟨p3, c3, p4, c4, rfl, hy, rfl⟩
    refine sl_perm ?_ (perm3 (D := D2))
    repeat (first | refine run_S ?_ | refine w_box (fun _ => ?_) | refine w_al (fun _ => ?_))
    rename_i b5 b6
    obtain ⟨X, hXd⟩ : ∃ X, X = QV.mk (IV.mk a.num.neg p1 a.num.n c1) (IV.mk a.den.neg p2 a.den.n c2) := ⟨_, rfl⟩
    obtain ⟨Y, hYd⟩ : ∃ Y, Y = QV.mk (IV.mk b.num.neg p3 b.num.n c3) (IV.mk b.den.neg p4 b.den.n c4) := ⟨_, rfl⟩
    rw [← hXd, ← hYd]
    have hX : ∀ U', X.rep U' (D1 ++ M) p := fun U' => by rw [hXd]; exact ⟨_, _, ⟨la, (hx U' M).1, rfl⟩, ⟨lb, (hx U' M).2, rfl⟩, hpa⟩
    have hY : ∀ U', Y.rep U' (D2 ++ M) q := fun U' => by rw [hYd]; exact ⟨_, _, ⟨lc, (hy U' M).1, rfl⟩, ⟨le, (hy U' M).2, rfl⟩, hqb⟩
    have hXn : ∀ U', X.num.rep U' (D1 ++ M) (sg X.num.neg (val la)) := fun U' => ⟨la, by rw [hXd]; exact (hx U' M).1, rfl⟩
    have hnX : X.le 68719476736 := by rw [hXd]; exact ⟨by show a.num.n ≤ _; omega, by show a.den.n ≤ _; omega⟩
    have hnY : Y.le 68719476736 := by rw [hYd]; exact ⟨by show b.num.n ≤ _; omega, by show b.den.n ≤ _; omega⟩
    have hnX2 : X.le 274877906944 := ⟨by omega, by omega⟩
    refine sl_call rfl rfl rfl rfl rfl rfl (fun _ => qQuo_ct ((hX _).up (ULe.refl _) sb) hnX ((hY _).up (ULe.refl _) sb) hnY) ?_
    rintro v U3 Dq hU3 ⟨xq, e, rfl, q0, q1, -⟩
    have hq : ∃ (Dn Dd : MH) (z z' : Int), Dq = Dd ++ Dn ∧ xq.num.own Dn z ∧ xq.den.own Dd z' := by
      by_cases h0 : q = 0
      · obtain ⟨-, rfl, rfl⟩ := q0 h0
        exact ⟨[], [], 0, 0, rfl, zeroIV0_own, zeroIV0_own⟩
      · obtain ⟨-, Dn, Dd, h1, h2, h3⟩ := q1 h0
        exact ⟨Dn, Dd, _, _, h1, h2, h3⟩
    obtain ⟨n7, d7, zq, zq', rfl, hq1, hq2⟩ := hq
    clear q0 q1
    refine sl_perm ?_ (perm5 (D := d7 ++ n7))
    repeat (first | refine run_S ?_ | refine w_box (fun _ => ?_) | refine w_al (fun _ => ?_))
    rename_i b7
    refine st_draw [0, 2, 4, 6, 7, 9, 10, 12, 13, 15, 16, 17, 1, 3, 5, 8, 11, 14, 18, 19, 20] sym (by kernel_rfl) ?_
    repeat (first | refine run_S ?_ | refine w_box (fun _ => ?_) | refine w_al (fun _ => ?_))
    refine sl_call rfl rfl rfl rfl rfl rfl (fun _ => qNormal_ct ((hX _).up (ULe.refl _) sb) hnX2) ?_
    rintro v Uk1 Dk1 hU ⟨xk1, rfl, k1, -⟩
    refine sl_perm ?_ (perm6 (D := Dk1))
    repeat (first | refine run_S ?_ | refine w_box (fun _ => ?_) | refine w_al (fun _ => ?_))
    obtain ⟨n1, d1, rfl, k1n, k1d⟩ := k1
    refine sl_call rfl rfl rfl rfl rfl rfl (fun _ => qNeg_ct ((hX _).up (ULe.refl _) sb) hnX2) ?_
    rintro v Uk2 Dk2 hU ⟨xk2, rfl, k2, -⟩
    refine sl_perm ?_ (perm6 (D := Dk2))
    repeat (first | refine run_S ?_ | refine w_box (fun _ => ?_) | refine w_al (fun _ => ?_))
    obtain ⟨n2, d2, rfl, k2n, k2d⟩ := k2
    refine sl_call rfl rfl rfl rfl rfl rfl (fun _ => qAbs_ct ((hX _).up (ULe.refl _) sb) hnX2) ?_
    rintro v Uk3 Dk3 hU ⟨xk3, rfl, k3, -⟩
    refine sl_perm ?_ (perm6 (D := Dk3))
    repeat (first | refine run_S ?_ | refine w_box (fun _ => ?_) | refine w_al (fun _ => ?_))
    obtain ⟨n3, d3, rfl, k3n, k3d⟩ := k3
    refine sl_call rfl rfl rfl rfl rfl rfl (fun _ => qAdd_ct ((hX _).up (ULe.refl _) sb) hnX ((hY _).up (ULe.refl _) sb) hnY) ?_
    rintro v Uk4 Dk4 hU ⟨xk4, rfl, k4, -⟩
    refine sl_perm ?_ (perm6 (D := Dk4))
    repeat (first | refine run_S ?_ | refine w_box (fun _ => ?_) | refine w_al (fun _ => ?_))
    obtain ⟨n4, d4, rfl, k4n, k4d⟩ := k4
    refine sl_call rfl rfl rfl rfl rfl rfl (fun _ => qSub_ct ((hX _).up (ULe.refl _) sb) hnX ((hY _).up (ULe.refl _) sb) hnY) ?_
    rintro v Uk5 Dk5 hU ⟨xk5, rfl, k5, -⟩
    refine sl_perm ?_ (perm6 (D := Dk5))
    repeat (first | refine run_S ?_ | refine w_box (fun _ => ?_) | refine w_al (fun _ => ?_))
    obtain ⟨n5, d5, rfl, k5n, k5d⟩ := k5
    refine sl_call rfl rfl rfl rfl rfl rfl (fun _ => qMul_ct ((hX _).up (ULe.refl _) sb) hnX ((hY _).up (ULe.refl _) sb) hnY) ?_
    rintro v Uk6 Dk6 hU ⟨xk6, rfl, k6, -⟩
    refine sl_perm ?_ (perm6 (D := Dk6))
    repeat (first | refine run_S ?_ | refine w_box (fun _ => ?_) | refine w_al (fun _ => ?_))
    obtain ⟨n6, d6, rfl, k6n, k6d⟩ := k6
    refine sl_call rfl rfl rfl rfl rfl rfl (fun _ => qWhole_ct (x := X.num) ((hXn _).up (ULe.refl _) sb) hnX2.1) ?_
    rintro v U8 D8 hU ⟨x8, rfl, ⟨n8, d8, rfl, k8n, k8d⟩, -⟩
    refine sl_perm ?_ (perm6 (D := d8 ++ n8))
    repeat (first | refine run_S ?_ | refine w_box (fun _ => ?_) | refine w_al (fun _ => ?_))
    obtain ⟨qs, hqs⟩ : ∃ qs : List QV, qs = [xk1, xk2, xk3, xk4, xk5, xk6, xq, x8] := ⟨_, rfl⟩
    obtain ⟨xs, hxs⟩ : ∃ xs : List IV, xs = qs.flatMap fun x => [x.num, x.den] := ⟨_, rfl⟩
    obtain ⟨L, hL⟩ : ∃ L : List (IV × MH), L = [(xk1.num, n1), (xk1.den, d1), (xk2.num, n2), (xk2.den, d2), (xk3.num, n3), (xk3.den, d3), (xk4.num, n4), (xk4.den, d4), (xk5.num, n5), (xk5.den, d5), (xk6.num, n6), (xk6.den, d6), (xq.num, n7), (xq.den, d7), (x8.num, n8), (x8.den, d8)] := ⟨_, rfl⟩
    have hF := Fml.start (L := L) (by
      rw [hL]
      simp only [List.forall_mem_cons]
      exact ⟨⟨_, k1n⟩, ⟨_, k1d⟩, ⟨_, k2n⟩, ⟨_, k2d⟩, ⟨_, k3n⟩, ⟨_, k3d⟩, ⟨_, k4n⟩, ⟨_, k4d⟩, ⟨_, k5n⟩, ⟨_, k5d⟩, ⟨_, k6n⟩, ⟨_, k6d⟩, ⟨_, hq1⟩, ⟨_, hq2⟩, ⟨_, k8n⟩, ⟨_, k8d⟩, fun _ h => by cases h⟩)
    obtain ⟨F0, hF0⟩ : ∃ F0 : List MH, F0 = L.map (·.2) := ⟨_, rfl⟩
    have hLx : L.map (·.1) = xs := by rw [hL, hxs, hqs]; rfl
    rw [← hF0, hLx] at hF
    have hlq : qs.length = 8 := by rw [hqs]; rfl
    obtain ⟨B, hB⟩ : ∃ B : MH, B = [(b7, .var xq.v, 26), (b6, .var Y.v, 26), (b5, .var X.v, 26), (bo, .arr ([a, b].map QV.v), 26), (b3, .var b.v, 26), (b2, .var a.v, 26)] := ⟨_, rfl⟩
    refine sl_bslice (vs := qs.map QV.v) sym rfl rfl (by rw [hqs]; rfl) rfl rfl (by rw [List.length_map]; exact hlq) qvs_size rfl rfl rfl rfl rfl rfl (fun bl => ?_)
    refine sl_perm (M' := (bl, .arr (qs.map QV.v), 26) :: (B ++ (F0.flatten ++ (D2 ++ (D1 ++ M))))) ?_ (by rw [hB, hF0, hL]; exact shapeQ)
    clear k1n k1d k2n k2d k3n k3d k4n k4d k5n k5d k6n k6d hq1 hq2 k8n k8d hL hLx
    repeat (first | refine run_S ?_ | refine w_box (fun _ => ?_) | refine w_al (fun _ => ?_))
    refine st_loop (fun m E U' M' => ∃ (F : List MH) (i : Nat), i ≤ 8 ∧ Fml xs F (2 * i) ∧ E = (10, .int .i64 (i : Int)) :: (9, .slice (some ⟨bl, 0, none⟩) 8 8) :: (6, .pointer (some ⟨b6, 0, none⟩)) :: (5, .pointer (some ⟨b5, 0, none⟩)) :: (3, .pointer (some ⟨b3, 0, none⟩)) :: (2, .pointer (some ⟨b2, 0, none⟩)) :: [] ∧ U8 = U' ∧ M' = (bl, .arr (qs.map QV.v), 26) :: (B ++ (F.flatten ++ (D2 ++ (D1 ++ M)))) ∧ m = 8 - i) (n0 := 8)
      (E0 := (10, .int .i64 ((0 : Nat) : Int)) :: (9, .slice (some ⟨bl, 0, none⟩) 8 8) :: (6, .pointer (some ⟨b6, 0, none⟩)) :: (5, .pointer (some ⟨b5, 0, none⟩)) :: (3, .pointer (some ⟨b3, 0, none⟩)) :: (2, .pointer (some ⟨b2, 0, none⟩)) :: []) ⟨rfl, rfl, rfl, rfl, rfl, rfl, trivial⟩ ⟨F0, 0, by omega, hF, rfl, rfl, rfl, rfl⟩ ?_
    clear hF
    rintro m E U' M' ⟨F, i, hi, hF, rfl, rfl, rfl, rfl⟩
    try refine run_s ?_
    refine st_dec rfl (fun h5 => ?_) (fun h5 => ?_)
    · have hlt : i < qs.length := by omega
      have hxi := List.getElem?_eq_getElem hlt
      generalize qs[i] = x at hxi
      obtain ⟨g1, g2⟩ := pair_get hxi
      rw [← hxs] at g1 g2
      obtain ⟨D, l, hD, ho, hput⟩ := hF.put g1
      try refine run_s ?_
      refine sl_y (yl_indexM (j := i) sym rfl rfl rfl rfl rfl rfl (by omega)) rfl rfl rfl rfl ?_
      try refine run_s ?_
      refine sl_y (yl_loadHs (cs := [.bool x.num.neg, .slice x.num.p x.num.n x.num.c]) sym rfl rfl rfl rfl rfl (fun G w hw j v hv => by simpa [add_lit] using cells_num hxi G w hw j v hv)) rfl rfl rfl rfl ?_
      try refine run_s ?_
      refine sl_callC rfl rfl rfl rfl rfl rfl ((fill_cx (x := x.num) (v := i) ho (by omega)).perm (frame_perm (flat_pick hD))) ?_
      rintro v U' M' hU' ⟨rfl, D', ds', rfl, ho', hall⟩
      have hlF : 2 * i < F.length := by rw [hF.1]; exact (List.getElem?_eq_some_iff.1 g1).1
      refine sl_perm ?_ (frame_perm (flat_put (D := D') hlF)).symm
      replace hF := hput D' ds' ho' (fun d hd => by rw [hall d hd, vf, if_pos (by omega)]; omega)
      generalize F.set (2 * i) D' = F2 at hF
      clear ho ho' hput hall hlF
      obtain ⟨D, l, hD, ho, hput⟩ := hF.put g2
      try refine run_s ?_
      refine sl_y (yl_indexM (j := i) sym rfl rfl rfl rfl rfl rfl (by omega)) rfl rfl rfl rfl ?_
      try refine run_s ?_
      refine sl_y (yl_loadHs (cs := [.bool x.den.neg, .slice x.den.p x.den.n x.den.c]) sym rfl rfl rfl rfl rfl (fun G w hw j v hv => by simpa [add_lit] using cells_den hxi G w hw j v hv)) rfl rfl rfl rfl ?_
      try refine run_s ?_
      rw [show (i : Int) + 100 = ((i + 100 : Nat) : Int) by omega]
      refine sl_callC rfl rfl rfl rfl rfl rfl ((fill_cx (x := x.den) (v := i + 100) ho (by omega)).perm (frame_perm (flat_pick hD))) ?_
      rintro v U' M' hU' ⟨rfl, D', ds', rfl, ho', hall⟩
      have hlF : 2 * i + 1 < F2.length := by rw [hF.1]; exact (List.getElem?_eq_some_iff.1 g2).1
      refine sl_perm ?_ (frame_perm (flat_put (D := D') hlF)).symm
      replace hF := hput D' ds' ho' (fun d hd => by rw [hall d hd, vf, if_neg (by omega)]; omega)
      try refine run_s ?_
      exact sk_again (E' := (10, .int .i64 ((i : Int) + 1)) :: (9, .slice (some ⟨bl, 0, none⟩) 8 8) :: (6, .pointer (some ⟨b6, 0, none⟩)) :: (5, .pointer (some ⟨b5, 0, none⟩)) :: (3, .pointer (some ⟨b3, 0, none⟩)) :: (2, .pointer (some ⟨b2, 0, none⟩)) :: []) (m := 8 - (i + 1)) ⟨rfl, rfl, rfl, rfl, rfl, rfl, trivial⟩ (by omega) ⟨_, i + 1, by omega, hF, rfl, rfl, rfl, rfl⟩
    · have hi8 : i = 8 := by omega
      subst hi8
      try refine run_s ?_
      refine st_loop (fun m E U' M' => ∃ (i : Nat), i ≤ 8 ∧ E = (11, .int .i64 (i : Int)) :: (9, .slice (some ⟨bl, 0, none⟩) 8 8) :: (6, .pointer (some ⟨b6, 0, none⟩)) :: (5, .pointer (some ⟨b5, 0, none⟩)) :: (3, .pointer (some ⟨b3, 0, none⟩)) :: (2, .pointer (some ⟨b2, 0, none⟩)) :: [] ∧ U8 = U' ∧ M' = (bl, .arr (qs.map QV.v), 26) :: (B ++ (F.flatten ++ (D2 ++ (D1 ++ M)))) ∧ m = 8 - i) (n0 := 8)
        (E0 := (11, .int .i64 ((0 : Nat) : Int)) :: (9, .slice (some ⟨bl, 0, none⟩) 8 8) :: (6, .pointer (some ⟨b6, 0, none⟩)) :: (5, .pointer (some ⟨b5, 0, none⟩)) :: (3, .pointer (some ⟨b3, 0, none⟩)) :: (2, .pointer (some ⟨b2, 0, none⟩)) :: []) ⟨rfl, rfl, rfl, rfl, rfl, rfl, trivial⟩ ⟨0, by omega, rfl, rfl, rfl, rfl⟩ ?_
      rintro m E U' M' ⟨i, hi, rfl, rfl, rfl, rfl⟩
      try refine run_s ?_
      refine st_dec rfl (fun h5 => ?_) (fun h5 => ?_)
      · have hlt : i < qs.length := by omega
        have hxi := List.getElem?_eq_getElem hlt
        generalize qs[i] = x at hxi
        obtain ⟨g1, g2⟩ := pair_get hxi
        rw [← hxs] at g1 g2
        obtain ⟨l1, hd1, ha1⟩ := hF.get (U := U8) (B := (bl, .arr (qs.map QV.v), 26) :: B) (T := D2 ++ (D1 ++ M)) (by omega) g1
        obtain ⟨l2, hd2, ha2⟩ := hF.get (U := U8) (B := (bl, .arr (qs.map QV.v), 26) :: B) (T := D2 ++ (D1 ++ M)) (by omega) g2
        try refine run_s ?_
        refine sl_y (yl_indexM (j := i) sym rfl rfl rfl rfl rfl rfl (by omega)) rfl rfl rfl rfl ?_
        try refine run_s ?_
        refine sl_y (yl_loadHs (cs := [.bool x.num.neg, .slice x.num.p x.num.n x.num.c]) sym rfl rfl rfl rfl rfl (fun G w hw j v hv => by simpa [add_lit] using cells_num hxi G w hw j v hv)) rfl rfl rfl rfl ?_
        try refine run_s ?_
        refine sl_call rfl rfl rfl rfl rfl rfl (fun _ => filled_ct (x := x.num) (v := i) (hd1.up (ULe.refl _) sb) (fun d hd => by rw [ha1 d hd, vf, if_pos (by omega)]; omega) (by omega)) ?_
        rintro v U' D hU ⟨rfl, rfl, rfl⟩
        repeat (first | refine run_S ?_ | refine w_box (fun _ => ?_) | refine w_al (fun _ => ?_))
        refine sl_y (yl_indexM (j := i) sym rfl rfl rfl rfl rfl rfl (by omega)) rfl rfl rfl rfl ?_
        try refine run_s ?_
        refine sl_y (yl_loadHs (cs := [.bool x.den.neg, .slice x.den.p x.den.n x.den.c]) sym rfl rfl rfl rfl rfl (fun G w hw j v hv => by simpa [add_lit] using cells_den hxi G w hw j v hv)) rfl rfl rfl rfl ?_
        try refine run_s ?_
        rw [show (i : Int) + 100 = ((i + 100 : Nat) : Int) by omega]
        refine sl_call rfl rfl rfl rfl rfl rfl (fun _ => filled_ct (x := x.den) (v := i + 100) (hd2.up (ULe.refl _) sb) (fun d hd => by rw [ha2 d hd, vf, if_neg (by omega)]; omega) (by omega)) ?_
        rintro v U' D hU ⟨rfl, rfl, rfl⟩
        repeat (first | refine run_S ?_ | refine w_box (fun _ => ?_) | refine w_al (fun _ => ?_))
        exact sk_again (E' := (11, .int .i64 ((i : Int) + 1)) :: (9, .slice (some ⟨bl, 0, none⟩) 8 8) :: (6, .pointer (some ⟨b6, 0, none⟩)) :: (5, .pointer (some ⟨b5, 0, none⟩)) :: (3, .pointer (some ⟨b3, 0, none⟩)) :: (2, .pointer (some ⟨b2, 0, none⟩)) :: []) (m := 8 - (i + 1)) ⟨rfl, rfl, rfl, rfl, rfl, rfl, trivial⟩ (by omega) ⟨i + 1, by omega, rfl, rfl, rfl, rfl⟩
      · subst hB
        simp only [List.cons_append, List.nil_append]
        try refine run_s ?_
        refine sl_call rfl rfl rfl rfl rfl rfl (fun _ => bSameRat_cd (x := X) (y := a) (by rw [hXd]; exact (hx U8 M).1.up (ULe.refl _) sb) (hla.up uc sb) (by rw [hXd]; exact (hx U8 M).2.up (ULe.refl _) sb) (hlb.up uc sb) (by rw [hXd]) (by rw [hXd])) ?_
        rintro v U' D hU ⟨rfl, rfl, rfl⟩
        repeat (first | refine run_S ?_ | refine w_box (fun _ => ?_) | refine w_al (fun _ => ?_))
        refine sl_call rfl rfl rfl rfl rfl rfl (fun _ => bSameRat_cd (x := Y) (y := b) (by rw [hYd]; exact (hy U8 M).1.up (ULe.refl _) sb) (hlc.up uc sb) (by rw [hYd]; exact (hy U8 M).2.up (ULe.refl _) sb) (hle.up uc sb) (by rw [hYd]) (by rw [hYd])) ?_
        rintro v U' D hU ⟨rfl, rfl, rfl⟩
        repeat (first | refine run_S ?_ | refine w_box (fun _ => ?_) | refine w_al (fun _ => ?_))
        exact sk_ret [] sym rfl (.cons (.tmp rfl) .nil) uc sb (.inl rfl) rfl
  · repeat (first | refine run_S ?_ | refine w_box (fun _ => ?_) | refine w_al (fun _ => ?_))
    exact sk_ret [] sym rfl (.cons (.tmp rfl) .nil) uc sb (.inl rfl) rfl

end Go.Proofs.Ytcndgdjelopmaaa
