/- The law on memory. -/
import Derived.Test.YtcakainebimmdaaM11
namespace Go.Proofs.Ytcakainebimmdaa
open Go.Hp
variable {G : World} {U : UH} {M : MH}

theorem shape12 {α : Type} {e x1 x2 x3 x4 x5 x6 x7 x8 x9 x10 x11 x12 : α} {k1 k2 k3 k4 k5 k6 k7 q r g u t T : List α} :
    (e :: x1 :: x2 :: x3 :: x4 :: x5 :: x6 :: x7 :: x8 :: x9 :: x10 :: x11 :: x12 :: (k7 ++ (k6 ++ (k5 ++ (k4 ++ (k3 ++ (k2 ++ (k1 ++ ((t ++ (u ++ g)) ++ ((r ++ q) ++ T)))))))))).Perm (e :: ([x1, x2, x3, x4, x5, x6, x7, x8, x9, x10, x11, x12] ++ ([k1, k2, k3, k4, k5, k6, k7, q, r, g, u, t].flatten ++ T))) :=
  perm_sum (by
    intro f
    simp only [List.map_append, List.map_cons, List.sum_append, List.sum_cons, List.flatten_cons, List.flatten_nil, List.cons_append, List.nil_append, List.map_nil, List.sum_nil]
    omega)

theorem BigintMemory_ct {a b : IV} {za zb : Int} (ha : a.rep U M za) (hb : b.rep U M zb) :
    Ct Try.prog 11 [a.v, b.v] G U M fun v _ _ => v = .bool true := by
  refine ct_of_st Try.func11 rfl rfl rfl rfl ?_
  repeat (first | refine run_S ?_ | refine w_box (fun _ => ?_) | refine w_al (fun _ => ?_))
  rename_i b2 b3
  refine sl_call rfl rfl rfl rfl rfl rfl (fun _ => awake_ct) ?_
  rintro v U1 D hUc ⟨rfl, -, rfl⟩
  repeat (first | refine run_S ?_ | refine w_box (fun _ => ?_) | refine w_al (fun _ => ?_))
  refine sl_bslice (vs := [a, b].map IV.v) sym rfl rfl rfl rfl rfl rfl (by intro v hv; obtain ⟨y, _, rfl⟩ := List.mem_map.1 hv; rfl) rfl rfl rfl rfl rfl rfl (fun bo => ?_)
  repeat (first | refine run_S ?_ | refine w_box (fun _ => ?_) | refine w_al (fun _ => ?_))
  refine sl_call rfl rfl rfl rfl rfl rfl (fun _ => long_ct (ivs_head.app _) rfl (by decide)) ?_
  rintro v U' D hU ⟨r, rfl, hr, rfl, rfl⟩
  repeat (first | refine run_S ?_ | refine w_box (fun _ => ?_) | refine w_al (fun _ => ?_))
  cases r
  · have hr := hr rfl
    have hna : a.n ≤ 40 := hr a (by simp)
    have hnb : b.n ≤ 40 := hr b (by simp)
    obtain ⟨l1, hd1, hl1⟩ := id ha
    obtain ⟨l2, hd2, hl2⟩ := id hb
    repeat (first | refine run_S ?_ | refine w_box (fun _ => ?_) | refine w_al (fun _ => ?_))
    refine st_draw [0, 1, 3, 4, 2, 5, 6, 7, 8] sym (by kernel_rfl) ?_
    repeat (first | refine run_S ?_ | refine w_box (fun _ => ?_) | refine w_al (fun _ => ?_))
    refine sl_bslice (vs := []) sym rfl rfl rfl rfl rfl rfl (by intro v hv; cases hv) rfl rfl rfl rfl rfl rfl (fun be1 => ?_)
    repeat (first | refine run_S ?_ | refine w_box (fun _ => ?_) | refine w_al (fun _ => ?_))
    refine sl_appendN sym rfl rfl rfl rfl rfl (hd1.up hUc sb) (by omega) rfl rfl rfl (fun p1 c1 D1 hx1 => ?_)
    refine sl_perm ?_ (perm4 (D := D1))
    repeat (first | refine run_S ?_ | refine w_box (fun _ => ?_) | refine w_al (fun _ => ?_))
    rename_i b5
    refine st_draw [0, 1, 3, 4, 2, 5, 6, 7, 8] sym (by kernel_rfl) ?_
    repeat (first | refine run_S ?_ | refine w_box (fun _ => ?_) | refine w_al (fun _ => ?_))
    refine sl_bslice (vs := []) sym rfl rfl rfl rfl rfl rfl (by intro v hv; cases hv) rfl rfl rfl rfl rfl rfl (fun be2 => ?_)
    repeat (first | refine run_S ?_ | refine w_box (fun _ => ?_) | refine w_al (fun _ => ?_))
    refine sl_appendN sym rfl rfl rfl rfl rfl (hd2.up hUc sb) (by omega) rfl rfl rfl (fun p2 c2 D2 hx2 => ?_)
    refine sl_perm ?_ (perm6 (D := D2))
    repeat (first | refine run_S ?_ | refine w_box (fun _ => ?_) | refine w_al (fun _ => ?_))
    rename_i b6
    have hX : ∀ U', IV.rep ⟨a.neg, p1, a.n, c1⟩ U' (D1 ++ M) za := fun U' => ⟨l1, hx1 U' M, hl1⟩
    have hY : ∀ U', IV.rep ⟨b.neg, p2, b.n, c2⟩ U' (D2 ++ M) zb := fun U' => ⟨l2, hx2 U' M, hl2⟩
    have hna2 : a.n ≤ 274877906944 := by omega
    have hnb2 : b.n ≤ 274877906944 := by omega
    have hna3 : a.n ≤ 1099511627776 := by omega
    have hnb3 : b.n ≤ 1099511627776 := by omega
    refine sl_call rfl rfl rfl rfl rfl rfl (fun _ => DivMod_ct (x := ⟨a.neg, p1, a.n, c1⟩) (y := ⟨b.neg, p2, b.n, c2⟩) ((hX _).up (ULe.refl _) sb) hna3 ((hY _).up (ULe.refl _) sb) hnb3) ?_
    rintro v U2 D hU ⟨q, r, e, Dq, Dr, rfl, rfl, h1, h2, -⟩
    have hqr : ∃ zq zr, q.own Dq zq ∧ r.own Dr zr := by
      by_cases hb0 : zb = 0
      · obtain ⟨-, rfl, rfl, rfl, rfl⟩ := h2 hb0
        exact ⟨0, 0, own_zero, own_zero⟩
      · exact ⟨_, _, (h1 hb0).2⟩
    obtain ⟨zq, zr, hq, hr⟩ := hqr
    clear h1 h2
    replace hUc := hUc.trans hU
    refine sl_perm ?_ (perm7 (D := Dr ++ Dq))
    repeat (first | refine run_S ?_ | refine w_box (fun _ => ?_) | refine w_al (fun _ => ?_))
    rename_i b7 b8
    refine sl_call rfl rfl rfl rfl rfl rfl (fun _ => Xgcd_ct (x := ⟨a.neg, p1, a.n, c1⟩) (y := ⟨b.neg, p2, b.n, c2⟩) ((hX _).up (ULe.refl _) sb) hna2 ((hY _).up (ULe.refl _) sb) hnb2) ?_
    rintro v U3 D hU ⟨g, u, t, zu, zt, Dg, Du, Dt, rfl, rfl, hg, hu, ht, -, -, -⟩
    replace hUc := hUc.trans hU
    refine sl_perm ?_ (perm9 (D := Dt ++ (Du ++ Dg)))
    repeat (first | refine run_S ?_ | refine w_box (fun _ => ?_) | refine w_al (fun _ => ?_))
    rename_i b10 b11 b12
    refine st_draw [0, 2, 4, 6, 7, 9, 10, 12, 13, 15, 16, 18, 19, 20, 21, 22, 1, 3, 5, 8, 11, 14, 17, 23, 24] sym (by kernel_rfl) ?_
    repeat (first | refine run_S ?_ | refine w_box (fun _ => ?_) | refine w_al (fun _ => ?_))
    refine sl_call rfl rfl rfl rfl rfl rfl (fun _ => Normal_ct (x := ⟨a.neg, p1, a.n, c1⟩) ((hX _).up (ULe.refl _) sb) hna3) ?_
    rintro v U' Dk1 hU ⟨xk1, rfl, k1, rfl⟩
    refine sl_perm ?_ (perm12 (D := Dk1))
    repeat (first | refine run_S ?_ | refine w_box (fun _ => ?_) | refine w_al (fun _ => ?_))
    refine sl_call rfl rfl rfl rfl rfl rfl (fun _ => Neg_ct (x := ⟨a.neg, p1, a.n, c1⟩) ((hX _).up (ULe.refl _) sb) hna3) ?_
    rintro v U' Dk2 hU ⟨xk2, rfl, k2, rfl⟩
    refine sl_perm ?_ (perm12 (D := Dk2))
    repeat (first | refine run_S ?_ | refine w_box (fun _ => ?_) | refine w_al (fun _ => ?_))
    refine sl_call rfl rfl rfl rfl rfl rfl (fun _ => Abs_ct (x := ⟨a.neg, p1, a.n, c1⟩) ((hX _).up (ULe.refl _) sb) hna3) ?_
    rintro v U' Dk3 hU ⟨xk3, rfl, k3, rfl⟩
    refine sl_perm ?_ (perm12 (D := Dk3))
    repeat (first | refine run_S ?_ | refine w_box (fun _ => ?_) | refine w_al (fun _ => ?_))
    refine sl_call rfl rfl rfl rfl rfl rfl (fun _ => Add_ct (x := ⟨a.neg, p1, a.n, c1⟩) (y := ⟨b.neg, p2, b.n, c2⟩) ((hX _).up (ULe.refl _) sb) hna3 ((hY _).up (ULe.refl _) sb) hnb3) ?_
    rintro v U' Dk4 hU ⟨xk4, rfl, k4, rfl⟩
    refine sl_perm ?_ (perm12 (D := Dk4))
    repeat (first | refine run_S ?_ | refine w_box (fun _ => ?_) | refine w_al (fun _ => ?_))
    refine sl_call rfl rfl rfl rfl rfl rfl (fun _ => Sub_ct (x := ⟨a.neg, p1, a.n, c1⟩) (y := ⟨b.neg, p2, b.n, c2⟩) ((hX _).up (ULe.refl _) sb) hna3 ((hY _).up (ULe.refl _) sb) hnb3) ?_
    rintro v U' Dk5 hU ⟨xk5, rfl, k5, rfl⟩
    refine sl_perm ?_ (perm12 (D := Dk5))
    repeat (first | refine run_S ?_ | refine w_box (fun _ => ?_) | refine w_al (fun _ => ?_))
    refine sl_call rfl rfl rfl rfl rfl rfl (fun _ => Mul_ct (x := ⟨a.neg, p1, a.n, c1⟩) (y := ⟨b.neg, p2, b.n, c2⟩) ((hX _).up (ULe.refl _) sb) hna3 ((hY _).up (ULe.refl _) sb) hnb3) ?_
    rintro v U' Dk6 hU ⟨xk6, rfl, k6, rfl⟩
    refine sl_perm ?_ (perm12 (D := Dk6))
    repeat (first | refine run_S ?_ | refine w_box (fun _ => ?_) | refine w_al (fun _ => ?_))
    refine sl_call rfl rfl rfl rfl rfl rfl (fun _ => Gcd_ct (x := ⟨a.neg, p1, a.n, c1⟩) (y := ⟨b.neg, p2, b.n, c2⟩) ((hX _).up (ULe.refl _) sb) hna3 ((hY _).up (ULe.refl _) sb) hnb3) ?_
    rintro v Uk7 Dk7 hU ⟨xk7, rfl, k7, -⟩
    replace hUc := hUc.trans hU
    refine sl_perm ?_ (perm12 (D := Dk7))
    repeat (first | refine run_S ?_ | refine w_box (fun _ => ?_) | refine w_al (fun _ => ?_))
    obtain ⟨L, hL⟩ : ∃ L : List (IV × MH), L = [(xk1, Dk1), (xk2, Dk2), (xk3, Dk3), (xk4, Dk4), (xk5, Dk5), (xk6, Dk6), (xk7, Dk7), (q, Dq), (r, Dr), (g, Dg), (u, Du), (t, Dt)] := ⟨_, rfl⟩
    have hF := Fam.start (L := L) (by
      rw [hL]
      simp only [List.forall_mem_cons]
      exact ⟨⟨_, k1⟩, ⟨_, k2⟩, ⟨_, k3⟩, ⟨_, k4⟩, ⟨_, k5⟩, ⟨_, k6⟩, ⟨_, k7⟩, ⟨_, hq⟩, ⟨_, hr⟩, ⟨_, hg⟩, ⟨_, hu⟩, ⟨_, ht⟩, fun _ h => by cases h⟩)
    obtain ⟨xs, hxs⟩ : ∃ xs : List IV, xs = L.map (·.1) := ⟨_, rfl⟩
    obtain ⟨F0, hF0⟩ : ∃ F0 : List MH, F0 = L.map (·.2) := ⟨_, rfl⟩
    rw [← hxs, ← hF0] at hF
    have hlen : xs.length = 12 := by rw [hxs, hL]; rfl
    obtain ⟨B, hB⟩ : ∃ B : MH, B = [(b12, .var t.v, 24), (b11, .var u.v, 24), (b10, .var g.v, 24), (b8, .var r.v, 24), (b7, .var q.v, 24), (b6, .var (IV.mk b.neg p2 b.n c2).v, 24), (be2, .arr [], 56), (b5, .var (IV.mk a.neg p1 a.n c1).v, 24), (be1, .arr [], 56), (bo, .arr ([a, b].map IV.v), 24), (b3, .var b.v, 24), (b2, .var a.v, 24)] := ⟨_, rfl⟩
    refine sl_bslice (vs := xs.map IV.v) sym rfl rfl (by rw [hxs, hL]; rfl) rfl rfl (by rw [List.length_map]; exact hlen) (by intro v hv; obtain ⟨y, _, rfl⟩ := List.mem_map.1 hv; rfl) rfl rfl rfl rfl rfl rfl (fun bl => ?_)
    refine sl_perm (M' := (bl, .arr (xs.map IV.v), 24) :: (B ++ (F0.flatten ++ (D2 ++ (D1 ++ M))))) ?_ (by rw [hB, hF0, hL]; exact shape12)
    clear k1 k2 k3 k4 k5 k6 k7 hq hr hg hu ht
    have hIv : ∀ X : MH, Ivs Uk7 ((bl, .arr (xs.map IV.v), 24) :: X) bl xs := fun X => ivs_head
    repeat (first | refine run_S ?_ | refine w_box (fun _ => ?_) | refine w_al (fun _ => ?_))
    refine st_loop (fun m E U' M' => ∃ (F : List MH) (i : Nat), i ≤ 12 ∧ Fam xs F i 0 ∧ E = (14, .int .i64 (i : Int)) :: (13, .slice (some ⟨bl, 0, none⟩) 12 12) :: (6, .pointer (some ⟨b6, 0, none⟩)) :: (5, .pointer (some ⟨b5, 0, none⟩)) :: (3, .pointer (some ⟨b3, 0, none⟩)) :: (2, .pointer (some ⟨b2, 0, none⟩)) :: [] ∧ Uk7 = U' ∧ M' = (bl, .arr (xs.map IV.v), 24) :: (B ++ (F.flatten ++ (D2 ++ (D1 ++ M)))) ∧ m = 12 - i) (n0 := 12)
      (E0 := (14, .int .i64 ((0 : Nat) : Int)) :: (13, .slice (some ⟨bl, 0, none⟩) 12 12) :: (6, .pointer (some ⟨b6, 0, none⟩)) :: (5, .pointer (some ⟨b5, 0, none⟩)) :: (3, .pointer (some ⟨b3, 0, none⟩)) :: (2, .pointer (some ⟨b2, 0, none⟩)) :: []) ⟨rfl, rfl, rfl, rfl, rfl, rfl, trivial⟩ ⟨F0, 0, by omega, hF, rfl, rfl, rfl, rfl⟩ ?_
    clear hF
    rintro m E U' M' ⟨F, i, hi, hF, rfl, rfl, rfl, rfl⟩
    try refine run_s ?_
    refine st_dec rfl (fun h5 => ?_) (fun h5 => ?_)
    · have hlt : i < xs.length := by omega
      have hxi := List.getElem?_eq_getElem hlt
      generalize xs[i] = x at hxi
      try refine run_s ?_
      refine st_loop (fun m E U' M' => ∃ (F : List MH) (k : Nat), Fam xs F i k ∧ E = (15, .int .i64 (k : Int)) :: (14, .int .i64 (i : Int)) :: (13, .slice (some ⟨bl, 0, none⟩) 12 12) :: (6, .pointer (some ⟨b6, 0, none⟩)) :: (5, .pointer (some ⟨b5, 0, none⟩)) :: (3, .pointer (some ⟨b3, 0, none⟩)) :: (2, .pointer (some ⟨b2, 0, none⟩)) :: [] ∧ Uk7 = U' ∧ M' = (bl, .arr (xs.map IV.v), 24) :: (B ++ (F.flatten ++ (D2 ++ (D1 ++ M)))) ∧ m = x.n - k) (n0 := x.n)
        (E0 := (15, .int .i64 ((0 : Nat) : Int)) :: (14, .int .i64 (i : Int)) :: (13, .slice (some ⟨bl, 0, none⟩) 12 12) :: (6, .pointer (some ⟨b6, 0, none⟩)) :: (5, .pointer (some ⟨b5, 0, none⟩)) :: (3, .pointer (some ⟨b3, 0, none⟩)) :: (2, .pointer (some ⟨b2, 0, none⟩)) :: []) ⟨rfl, rfl, rfl, rfl, rfl, rfl, rfl, trivial⟩ ⟨F, 0, hF, rfl, rfl, rfl, rfl⟩ ?_
      clear hF
      rintro m E U' M' ⟨F, k, hF, rfl, rfl, rfl, rfl⟩
      try refine run_s ?_
      refine sl_y (yl_indexM (j := i) sym rfl rfl rfl rfl rfl rfl (by omega)) rfl rfl rfl rfl ?_
      try refine run_s ?_
      refine sl_y (yl_loadH sym rfl rfl rfl rfl (v := .slice x.p x.n x.c) (fun G w hw => by simpa [add_lit] using (hIv _).get i x hxi G w hw)) rfl rfl rfl rfl ?_
      try refine run_s ?_
      refine st_dec rfl (fun h6 => ?_) (fun h6 => ?_)
      · obtain ⟨D, ds, hD, ho, hput⟩ := hF.put hxi (by omega)
        have hol := ho.len
        try refine run_s ?_
        refine sl_y (yl_indexM (j := i) sym rfl rfl rfl rfl rfl rfl (by omega)) rfl rfl rfl rfl ?_
        try refine run_s ?_
        refine sl_y (yl_loadH sym rfl rfl rfl rfl (v := .slice x.p x.n x.c) (fun G w hw => by simpa [add_lit] using (hIv _).get i x hxi G w hw)) rfl rfl rfl rfl ?_
        try refine run_s ?_
        obtain ⟨-, -, -, hp, -⟩ := (ho.dig (U := Uk7) (M := M)).get (k := k) (by omega)
        refine sl_y (yl_index1 sym rfl rfl rfl rfl rfl rfl (by omega) hp) rfl rfl rfl rfl ?_
        refine sl_storeO (v := i) sym rfl rfl rfl rfl ho (frame_perm (flat_pick hD)) (by omega) (by omega) rfl rfl rfl rfl rfl (fun D' hD' => ?_)
        have hiF : i < F.length := (List.getElem?_eq_some_iff.1 hD).1
        refine sl_perm ?_ (frame_perm (flat_put (F := F) (i := i) (D := D') hiF)).symm
        try refine run_s ?_
        exact sk_again (E' := (15, .int .i64 ((k : Int) + 1)) :: (14, .int .i64 (i : Int)) :: (13, .slice (some ⟨bl, 0, none⟩) 12 12) :: (6, .pointer (some ⟨b6, 0, none⟩)) :: (5, .pointer (some ⟨b5, 0, none⟩)) :: (3, .pointer (some ⟨b3, 0, none⟩)) :: (2, .pointer (some ⟨b2, 0, none⟩)) :: []) (m := x.n - (k + 1)) ⟨rfl, rfl, rfl, rfl, rfl, rfl, rfl, trivial⟩ (by omega) ⟨F.set i D', k + 1, hput D' hD', rfl, rfl, rfl, rfl⟩
      · try refine run_s ?_
        exact sk_again (E' := (14, .int .i64 ((i : Int) + 1)) :: (13, .slice (some ⟨bl, 0, none⟩) 12 12) :: (6, .pointer (some ⟨b6, 0, none⟩)) :: (5, .pointer (some ⟨b5, 0, none⟩)) :: (3, .pointer (some ⟨b3, 0, none⟩)) :: (2, .pointer (some ⟨b2, 0, none⟩)) :: []) (m := 12 - (i + 1)) ⟨rfl, rfl, rfl, rfl, rfl, rfl, trivial⟩ (by omega) ⟨F, i + 1, by omega, hF.next hxi (by omega), rfl, rfl, rfl, rfl⟩
    · have hi12 : i = 12 := by omega
      subst hi12
      obtain ⟨M1, hM1⟩ : ∃ M1 : MH, M1 = (bl, .arr (xs.map IV.v), 24) :: (B ++ (F.flatten ++ (D2 ++ (D1 ++ M)))) := ⟨_, rfl⟩
      have hIv1 : Ivs Uk7 M1 bl xs := by rw [hM1]; exact hIv _
      rw [← hM1]
      try refine run_s ?_
      refine st_loop (fun m E U' M' => ∃ i : Nat, i ≤ 12 ∧ E = (16, .int .i64 (i : Int)) :: (13, .slice (some ⟨bl, 0, none⟩) 12 12) :: (6, .pointer (some ⟨b6, 0, none⟩)) :: (5, .pointer (some ⟨b5, 0, none⟩)) :: (3, .pointer (some ⟨b3, 0, none⟩)) :: (2, .pointer (some ⟨b2, 0, none⟩)) :: [] ∧ Uk7 = U' ∧ M1 = M' ∧ m = 12 - i) (n0 := 12)
        (E0 := (16, .int .i64 ((0 : Nat) : Int)) :: (13, .slice (some ⟨bl, 0, none⟩) 12 12) :: (6, .pointer (some ⟨b6, 0, none⟩)) :: (5, .pointer (some ⟨b5, 0, none⟩)) :: (3, .pointer (some ⟨b3, 0, none⟩)) :: (2, .pointer (some ⟨b2, 0, none⟩)) :: []) ⟨rfl, rfl, rfl, rfl, rfl, rfl, trivial⟩ ⟨0, by omega, rfl, rfl, rfl, rfl⟩ ?_
      rintro m E U' M' ⟨i, hi, rfl, rfl, rfl, rfl⟩
      try refine run_s ?_
      refine st_dec rfl (fun h5 => ?_) (fun h5 => ?_)
      · have hlt : i < xs.length := by omega
        have hxi := List.getElem?_eq_getElem hlt
        generalize xs[i] = x at hxi
        try refine run_s ?_
        refine st_loop (fun m E U' M' => ∃ k : Nat, E = (17, .int .i64 (k : Int)) :: (16, .int .i64 (i : Int)) :: (13, .slice (some ⟨bl, 0, none⟩) 12 12) :: (6, .pointer (some ⟨b6, 0, none⟩)) :: (5, .pointer (some ⟨b5, 0, none⟩)) :: (3, .pointer (some ⟨b3, 0, none⟩)) :: (2, .pointer (some ⟨b2, 0, none⟩)) :: [] ∧ Uk7 = U' ∧ M1 = M' ∧ m = x.n - k) (n0 := x.n)
          (E0 := (17, .int .i64 ((0 : Nat) : Int)) :: (16, .int .i64 (i : Int)) :: (13, .slice (some ⟨bl, 0, none⟩) 12 12) :: (6, .pointer (some ⟨b6, 0, none⟩)) :: (5, .pointer (some ⟨b5, 0, none⟩)) :: (3, .pointer (some ⟨b3, 0, none⟩)) :: (2, .pointer (some ⟨b2, 0, none⟩)) :: []) ⟨rfl, rfl, rfl, rfl, rfl, rfl, rfl, trivial⟩ ⟨0, rfl, rfl, rfl, rfl⟩ ?_
        rintro m E U' M' ⟨k, rfl, rfl, rfl, rfl⟩
        try refine run_s ?_
        refine sl_y (yl_indexM (j := i) sym rfl rfl rfl rfl rfl rfl (by omega)) rfl rfl rfl rfl ?_
        try refine run_s ?_
        refine sl_y (yl_loadH sym rfl rfl rfl rfl (v := .slice x.p x.n x.c) (fun G w hw => by simpa [add_lit] using hIv1.get i x hxi G w hw)) rfl rfl rfl rfl ?_
        try refine run_s ?_
        refine st_dec rfl (fun h6 => ?_) (fun h6 => ?_)
        · obtain ⟨hp, hc⟩ := hF.get (k := k) (U := Uk7) (B := (bl, .arr (xs.map IV.v), 24) :: B) (T := D2 ++ (D1 ++ M)) (by omega) hxi (by omega)
          rw [List.cons_append, ← hM1] at hc
          have hkc : x.n ≤ 9223372036854775807 := hF.size hxi
          try refine run_s ?_
          refine sl_y (yl_indexM (j := i) sym rfl rfl rfl rfl rfl rfl (by omega)) rfl rfl rfl rfl ?_
          try refine run_s ?_
          refine sl_y (yl_loadH sym rfl rfl rfl rfl (v := .slice x.p x.n x.c) (fun G w hw => by simpa [add_lit] using hIv1.get i x hxi G w hw)) rfl rfl rfl rfl ?_
          try refine run_s ?_
          refine sl_y (yl_index1 sym rfl rfl rfl rfl rfl rfl (by omega) hp) rfl rfl rfl rfl ?_; refine sl_y (yl_loadD sym rfl rfl rfl rfl hc) rfl rfl rfl rfl ?_
          try refine run_s ?_
          refine st_ne rfl (fun h => absurd rfl h) (fun _ => ?_)
          try refine run_s ?_
          exact sk_again (E' := (17, .int .i64 ((k : Int) + 1)) :: (16, .int .i64 (i : Int)) :: (13, .slice (some ⟨bl, 0, none⟩) 12 12) :: (6, .pointer (some ⟨b6, 0, none⟩)) :: (5, .pointer (some ⟨b5, 0, none⟩)) :: (3, .pointer (some ⟨b3, 0, none⟩)) :: (2, .pointer (some ⟨b2, 0, none⟩)) :: []) (m := x.n - (k + 1)) ⟨rfl, rfl, rfl, rfl, rfl, rfl, rfl, trivial⟩ (by omega) ⟨k + 1, rfl, rfl, rfl, rfl⟩
        · try refine run_s ?_
          exact sk_again (E' := (16, .int .i64 ((i : Int) + 1)) :: (13, .slice (some ⟨bl, 0, none⟩) 12 12) :: (6, .pointer (some ⟨b6, 0, none⟩)) :: (5, .pointer (some ⟨b5, 0, none⟩)) :: (3, .pointer (some ⟨b3, 0, none⟩)) :: (2, .pointer (some ⟨b2, 0, none⟩)) :: []) (m := 12 - (i + 1)) ⟨rfl, rfl, rfl, rfl, rfl, rfl, trivial⟩ (by omega) ⟨i + 1, by omega, rfl, rfl, rfl, rfl⟩
      · subst hM1 hB
        simp only [List.cons_append, List.nil_append]
        try refine run_s ?_
        refine sl_call rfl rfl rfl rfl rfl rfl (fun _ => SameDig_ct (x := IV.mk a.neg p1 a.n c1) (y := a) ((hx1 Uk7 M).up (ULe.refl _) sb) (hd1.up hUc sb) rfl) ?_
        rintro v U' D hU ⟨rfl, rfl, rfl⟩
        try refine run_s ?_
        refine sl_call rfl rfl rfl rfl rfl rfl (fun _ => SameDig_ct (x := IV.mk b.neg p2 b.n c2) (y := b) ((hx2 Uk7 M).up (ULe.refl _) sb) (hd2.up hUc sb) rfl) ?_
        rintro v U' D hU ⟨rfl, rfl, rfl⟩
        try refine run_s ?_
        exact sk_ret [] sym rfl (.cons (.tmp rfl) .nil) hUc sb (.inl rfl) rfl
  · repeat (first | refine run_S ?_ | refine w_box (fun _ => ?_) | refine w_al (fun _ => ?_))
    exact sk_ret [] sym rfl (.cons (.tmp rfl) .nil) hUc sb (.inl rfl) rfl

end Go.Proofs.Ytcakainebimmdaa
