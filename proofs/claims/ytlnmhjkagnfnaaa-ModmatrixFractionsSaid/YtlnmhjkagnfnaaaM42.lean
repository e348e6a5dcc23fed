/- Texts of this seat's own, merged: each begins with its own remark. -/
import Derived.Test.YtlnmhjkagnfnaaaM41
import Derived.Test.YtlnmhjkagnfnaaaM19
import Derived.Test.YtlnmhjkagnfnaaaM10
/- Walks of modmatrix: grids are laid down as matrices; elimination. -/
namespace Go.Proofs.Ytlnmhjkagnfnaaa
open Go.Hp
open Go.Fq (Pm Fp Prm)
variable {G : World} {U U' : UH} {M : MH}

theorem fstore_ct {PP : Pm} {r c : Nat} {vg : Value} {A : Nat → Nat → Fp PP} (hg : Lgz (Vf PP) r c U M vg A) (hr : r ≤ 100000) (_ : c ≤ 100000) (hrc : r * c ≤ 100000000) :
    Ct Try.prog 50 [.int .i64 (c : Int), vg] G U M fun v U' D => Vmoz (Vf PP) r c U' D v A ∧ ULe U U' := by
  obtain ⟨p, cc, svs, rfl, -, rw1, el⟩ := hg
  refine ct_of_st Try.func50 rfl rfl rfl rfl ?_
  repeat (first | refine run_S ?_ | refine w_box (fun _ => ?_) | refine w_al (fun _ => ?_))
  rename_i b4 b5
  refine st_loop (fun z E U' M' => ∃ (i : Nat) (P : Option Addr) (C : Nat) (vs : List Value) (D : MH), i ≤ r ∧ RowO TInt 1 D P (i * c) C vs ∧ El (Vf PP) U' vs (fl c A) ∧ E = [(14, .int .i64 (i : Int)), (12, .slice p r cc), (13, .int .i64 (r : Int)), (4, .pointer (some ⟨b4, 0, none⟩)), (5, .pointer (some ⟨b5, 0, none⟩))] ∧ U = U' ∧
      M' = (b5, .var (.agg #[.int .i64 (r : Int), .int .i64 (c : Int), .slice P (i * c) C]), TF) :: (b4, .var (.agg #[.int .i64 0, .int .i64 0, .slice none 0 0]), TF) :: (D ++ M) ∧ z = r - i) (n0 := r)
    (E0 := [(14, .int .i64 ((0 : Nat) : Int)), (12, .slice p r cc), (13, .int .i64 (r : Int)), (4, .pointer (some ⟨b4, 0, none⟩)), (5, .pointer (some ⟨b5, 0, none⟩))]) ⟨rfl, rfl, rfl, rfl, rfl, trivial⟩ ⟨0, none, 0, [], [], by omega, by rw [Nat.zero_mul]; exact RowO.nil, El.nil, rfl, rfl, by rw [Nat.zero_mul]; rfl, rfl⟩ ?_
  rintro z E U1 M' ⟨i, P, C, vs, D, hi, hrow, hel, rfl, rfl, rfl, rfl⟩
  try refine run_s ?_
  refine st_dec rfl (fun h => ?_) (fun h => ?_)
  · have hir : i < r := by omega
    have hlt : i * c + c ≤ r * c := by
      have := Nat.mul_le_mul_right c (show i + 1 ≤ r by omega)
      rwa [Nat.add_mul, Nat.one_mul] at this
    obtain ⟨v1, hv1⟩ := rw1.at hir
    obtain ⟨p2, c2, us, rfl, -, rw2, el2⟩ := el _ _ hv1
    try refine run_s ?_
    refine sl_y (yl_index sym rfl rfl rfl rfl rfl rfl ((rw1.up uc sb).lt hv1) ((rw1.up uc sb).get _ _ hv1).1) rfl rfl rfl rfl ?_; refine sl_y (yl_loadR1 sym rfl rfl rfl rfl (rw1.up uc sb) hv1 rfl) rfl rfl rfl rfl ?_
    try refine run_s ?_
    refine w_app (X := (b5, .var (.agg #[.int .i64 (r : Int), .int .i64 (c : Int), .slice P (i * c) C]), TF) :: (b4, .var (.agg #[.int .i64 0, .int .i64 0, .slice none 0 0]), TF) :: M) hrow pf (rw2.up uc sb) (El.ones el2 fun _ _ h => one_f h) (fun p3 c3 D3 hr3 => ?_)
    refine sl_perm ?_ (perm2 (D := D3))
    try refine run_s ?_
    refine sl_storeF 0 sym rfl rfl rfl rfl rfl rfl rfl rfl rfl rfl rfl ?_
    try refine run_s ?_
    have e2 : i * c + c = (i + 1) * c := by rw [Nat.add_mul, Nat.one_mul]
    rw [e2] at hr3 ⊢
    exact sk_again (E' := [(14, .int .i64 ((i : Int) + 1)), (12, .slice p r cc), (13, .int .i64 (r : Int)), (4, .pointer (some ⟨b4, 0, none⟩)), (5, .pointer (some ⟨b5, 0, none⟩))]) (m := r - (i + 1)) ⟨rfl, rfl, rfl, rfl, rfl, trivial⟩ (by omega)
      ⟨i + 1, p3, c3, _, D3, by omega, hr3, app_ok hrow.len.1 hel (fun k x hk => by rw [fl_at (rw2.lt hk)]; exact el2 k x hk), rfl, rfl, rfl, rfl⟩
  · have e : i = r := by omega
    subst e
    repeat (first | refine run_S ?_ | refine w_box (fun _ => ?_) | refine w_al (fun _ => ?_))
    exact sk_ret D sym rfl (.cons (.cell 1 rfl rfl rfl) .nil) uc sb (.inl rfl) ⟨⟨_, rfl, P, C, vs, rfl, hrow, hel⟩, uc⟩

/-- A grid whose outer row may be a part of one. -/
def Gow (P : Pm) (m n : Nat) (U : UH) (D : MH) (v : Value) (A : Nat → Nat → Fp P) : Prop :=
  ∃ Do F p cc svs, D = Do ++ F.flatten ∧ v = .slice p m cc ∧ m ≤ cc ∧ RowW TIs 1 Do p m svs ∧ Gz (Vf P) zW n U svs F A
theorem Gow.lg {P : Pm} {r c : Nat} {D : MH} {v : Value} {A : Nat → Nat → Fp P} (h : Gow P r c U D v A) (hM : D.Sublist M) : Lgz (Vf P) r c U M v A := by
  obtain ⟨Do, F, p, cc, svs, rfl, rfl, hcc, h1, hg⟩ := h
  refine ⟨p, cc, svs, rfl, hcc, h1.at ((List.sublist_append_left ..).trans hM), fun k x hk => ?_⟩
  have hF : k < F.length := by rw [← hg.1]; exact (List.getElem?_eq_some_iff.1 hk).1
  obtain ⟨q, c', vs, rfl, h3, h4, h5⟩ := hg.2 k x _ hk (List.getElem?_eq_getElem hF)
  exact ⟨q, c', vs, rfl, h3, h4.at ((List.sublist_flatten_of_mem (List.getElem_mem hF)).trans ((List.sublist_append_right ..).trans hM)), h5⟩
/-- Row t of an entry that is what it stands for. -/
theorem f_zero {P : Pm} {x : Fp P} : ((x.v : Nat) : Int) = 0 ↔ x = 0 := ⟨fun h => Fq.v_eq_zero.1 (by omega), fun h => by rw [Fq.v_eq_zero.2 h]; rfl⟩

theorem fReduce_cx {P : Pm} {m n cl : Nat} {X D : MH} {vg : Value} {A0 : Nat → Nat → Fp P} (hgrid : Gow P m n U D vg A0) (hcl : cl ≤ n) (hp : P.1 ≤ 65536) (hn : n ≤ 1000000) (hm : m ≤ 1000000) :
    Cx Try.prog 49 [.int .i64 (P.1 : Int), vg, .int .i64 (cl : Int)] G U (D ++ X) fun v U' M' => ULe U U' ∧ ∃ (r : Nat) (R : Nat → Nat → Fp P) (p : Nat → Nat) (vp : Value) (d : Fp P) (D' Dp : MH), v = .tuple #[vp, .int .i64 (d.v : Int)] ∧ M' = D' ++ (Dp ++ X) ∧ Gow P m n U' D' vg R ∧ Lo Vi TInt 1 r U' Dp vp p ∧ La.Red m n cl r A0 R p d := by
  have hp2 := P.2.two
  obtain ⟨Do, F, pg, cg, svs, rfl, rfl, hcg, hro, hg⟩ := hgrid
  rw [List.append_assoc]
  refine cx_of_st Try.func49 rfl rfl rfl rfl ?_
  repeat (first | refine run_S ?_ | refine w_box (fun _ => ?_) | refine w_al (fun _ => ?_))
  try refine st_anti (M' := Do ++ (F.flatten ++ (([]) ++ X))) (ULe.refl _) sbk ?_
  refine st_loop (fun z E U' M' => ∃ (c r : Nat) (g : Nat → Nat → Fp P) (p : Nat → Nat) (svs : List Value) (Do : MH) (F : List MH) (pp : Option Addr) (cp : Nat) (pvs : List Value) (Dp : MH) (d : Fp P) (z7 : Int), z7 = (d.v : Int) ∧ c ≤ cl ∧ r ≤ m ∧ RowW TIs 1 Do pg m svs ∧ Gz (Vf P) zW n U' svs F g ∧ RowO TInt 1 Dp pp r cp pvs ∧ El Vi U' pvs p ∧ d ≠ 0 ∧ La.Elm m n A0 c r g p (m - r) (fun s => g (r + s)) ∧ (m = n → La.Rop n d A0 g) ∧ E = [(8, .int .i64 (c : Int)), (6, .slice pp r cp), (7, .int .i64 z7), (0, .int .i64 (P.1 : Int)), (1, .slice pg m cg), (2, .int .i64 (cl : Int))] ∧ ULe U U' ∧ M' = Do ++ (F.flatten ++ (Dp ++ X)) ∧ z = cl - c) (n0 := cl - 0) (E0 := [(8, .int .i64 ((0 : Nat) : Int)), (6, .slice none 0 0), (7, .int .i64 ((1 : Int))), (0, .int .i64 (P.1 : Int)), (1, .slice pg m cg), (2, .int .i64 (cl : Int))]) ⟨rfl, rfl, rfl, rfl, rfl, rfl, trivial⟩ ⟨0, 0, A0, id, svs, Do, F, none, 0, [], [], (1 : Fp P), (1 : Int), (by rw [Fq.v_one]; rfl), by omega, by omega, hro, hg.up uc, RowO.nil, El.nil, La.one_ne, (by simpa using La.Elm.start (R := A0) (p := id) |> fun z => z), (fun _ => La.Rop.refl n A0), rfl, uc, rfl, rfl⟩ ?_
  clear hro hg
  rintro z E U1 M' ⟨c, r, g, p, svs, Do, F, pp, cp, pvs, Dp, d, z7, rfl, hc, hr, hro, hg, hrp, ep, hd0, hE, hrop, rfl, hU1, rfl, rfl⟩
  have hsl := hro.len
  have hrc := hE.le_c
  have hdl := d.lt
  try refine run_s ?_
  have hfin : (c = cl ∨ r = m) → ∃ (r' : Nat) (R : Nat → Nat → Fp P) (p' : Nat → Nat) (vp : Value) (d' : Fp P) (D' Dp' : MH), tup [.slice pp r cp, .int .i64 (d.v : Int)] = .tuple #[vp, .int .i64 (d'.v : Int)] ∧ Do ++ (F.flatten ++ (Dp ++ X)) = D' ++ (Dp' ++ X) ∧ Gow P m n U1 D' (.slice pg m cg) R ∧ Lo Vi TInt 1 r' U1 Dp' vp p' ∧
      La.Red m n cl r' A0 R p' d' := fun hdn =>
    ⟨r, g, p, _, d, Do ++ F.flatten, Dp, rfl, (List.append_assoc ..).symm, ⟨Do, F, pg, cg, svs, rfl, rfl, hcg, hro, hg⟩, ⟨pp, cp, pvs, rfl, hrp, ep⟩, hE.red hr hc hdn hrop⟩
  refine sl_gdec rfl rfl (fun h1 => ?_) (fun h1 => ?_)
  · have hcc : c < cl := by omega
    have hcn : c < n := by omega
    try refine run_s ?_
    refine st_dec rfl (fun h2 => ?_) (fun h2 => ?_)
    · have hrm : r < m := by omega
      try refine run_s ?_
      try refine st_anti (M' := Do ++ (F.flatten ++ (Dp ++ X))) (ULe.refl _) sbk ?_
      refine st_loop (fun z E U' M' => ∃ (i : Nat), r ≤ i ∧ i ≤ m ∧ (∀ u, r ≤ u → u < i → g u c = 0) ∧ U1 = U' ∧ E = [(10, .int .i64 (i : Int)), (9, .int .i64 (r : Int)), (8, .int .i64 (c : Int)), (6, .slice pp r cp), (7, .int .i64 (d.v : Int)), (0, .int .i64 (P.1 : Int)), (1, .slice pg m cg), (2, .int .i64 (cl : Int))] ∧ ULe U1 U' ∧ M' = Do ++ (F.flatten ++ (Dp ++ X)) ∧ z = m - i) (n0 := m - r) (E0 := [(10, .int .i64 ((r : Nat) : Int)), (9, .int .i64 (r : Int)), (8, .int .i64 (c : Int)), (6, .slice pp r cp), (7, .int .i64 (d.v : Int)), (0, .int .i64 (P.1 : Int)), (1, .slice pg m cg), (2, .int .i64 (cl : Int))]) ⟨rfl, rfl, rfl, rfl, rfl, rfl, rfl, rfl, trivial⟩ ⟨r, Nat.le_refl _, hr, (fun u h1 h2 => absurd h1 (by omega)), rfl, rfl, uc, rfl, rfl⟩ ?_
      rintro z E U2 M' ⟨i, hri, him, hz, rfl, rfl, hU2, rfl, rfl⟩
      try refine run_s ?_
      refine sl_gdec rfl rfl (fun h3 => ?_) (fun h3 => ?_)
      · have hi : i < m := by omega
        have rA := hro.at (U := U1) (M := Do ++ (F.flatten ++ (Dp ++ X))) sb
        obtain ⟨q, c', vs, Di, hv, hFi, hcc', hR, hel, hiF, -⟩ := hg.put (i := i) (by omega)
        have rB := hR.at (U := U1) (M := Do ++ (F.flatten ++ (Dp ++ X))) (((List.sublist_flatten_of_mem (List.mem_of_getElem? hFi)).trans (List.sublist_append_left ..)).trans sb)
        obtain ⟨v2, hv2⟩ := rB.at hcn
        obtain rfl := hel _ _ hv2
        try refine run_s ?_
        refine sl_y (yl_index sym rfl rfl rfl rfl rfl rfl (rA.lt hv) (rA.get _ _ hv).1) rfl rfl rfl rfl ?_; refine sl_y (yl_loadR1 sym rfl rfl rfl rfl rA hv rfl) rfl rfl rfl rfl ?_
        try refine run_s ?_
        refine sl_y (yl_index sym rfl rfl rfl rfl rfl rfl (rB.lt hv2) (rB.get _ _ hv2).1) rfl rfl rfl rfl ?_; refine sl_y (yl_loadR1 sym rfl rfl rfl rfl rB hv2 rfl) rfl rfl rfl rfl ?_
        try refine run_s ?_
        refine st_eq rfl (fun hq => ?_) (fun hq => ?_)
        · have hq0 : g i c = 0 := f_zero.1 hq
          try refine run_s ?_
          have hz2 : ∀ u, r ≤ u → u < i + 1 → g u c = 0 := fun u h1 h2 => by
            rcases Nat.lt_or_eq_of_le (Nat.le_of_lt_succ h2) with h | h
            · exact hz u h1 h
            · rw [h]; exact hq0
          exact sk_again (E' := [(10, .int .i64 ((i : Int) + 1)), (9, .int .i64 (r : Int)), (8, .int .i64 (c : Int)), (6, .slice pp r cp), (7, .int .i64 (d.v : Int)), (0, .int .i64 (P.1 : Int)), (1, .slice pg m cg), (2, .int .i64 (cl : Int))]) (m := m - (i + 1)) ⟨rfl, rfl, rfl, rfl, rfl, rfl, rfl, rfl, trivial⟩ (by omega) ⟨i + 1, by omega, by omega, hz2, rfl, rfl, uc, rfl, rfl⟩
        · have hq0 : g i c ≠ 0 := fun e => hq (f_zero.2 e)
          try refine run_s ?_
          refine st_eq rfl (fun h => absurd h (by omega)) (fun _ => ?_)
          refine st_skip ?_
          refine sk_seq ?_
          refine st_seq_cut (fun E U' M' => ∃ (svs : List Value) (Do : MH) (F : List MH) (d1 : Fp P), RowW TIs 1 Do pg m svs ∧ Gz (Vf P) zW n U' svs F (La.swap g r i) ∧ d1 ≠ 0 ∧ (m = n → La.Rop n d1 A0 (La.swap g r i)) ∧ E = [(9, .int .i64 (r : Int)), (8, .int .i64 (c : Int)), (6, .slice pp r cp), (7, .int .i64 (d1.v : Int)), (0, .int .i64 (P.1 : Int)), (1, .slice pg m cg), (2, .int .i64 (cl : Int))] ∧ ULe U1 U' ∧ M' = Do ++ (F.flatten ++ (Dp ++ X))) ?_ ?_
          · try refine run_s ?_
            refine st_ne rfl (fun h4 => ?_) (fun h4 => ?_)
            · have hne : r ≠ i := by omega
              obtain ⟨vr, vi, F2, hvr, hvi, hF2, hg2⟩ := hg.swap (r := r) (i := i) (by omega) (by omega)
              obtain ⟨qr, cr, -, -, hvr', -⟩ := hg.put (i := r) (by omega)
              obtain rfl : vr = _ := Option.some.inj (hvr.symm.trans hvr')
              obtain rfl : vi = _ := Option.some.inj (hvi.symm.trans hv)
              try refine run_s ?_
              refine st_drawM [12, 13, 14, 15] [0, 1, 2, 3, 4, 5, 6, 7, 8, 9, 10, 11, 12, 13, 14, 15] sym (by kernel_rfl) ?_
              try refine run_s ?_
              refine sl_y (yl_index sym rfl rfl rfl rfl rfl rfl (rA.lt hvr) (rA.get _ _ hvr).1) rfl rfl rfl rfl ?_; refine sl_y (yl_loadR1 sym rfl rfl rfl rfl rA hvr rfl) rfl rfl rfl rfl ?_
              try refine run_s ?_
              refine sl_y (yl_index sym rfl rfl rfl rfl rfl rfl (rA.lt hvi) (rA.get _ _ hvi).1) rfl rfl rfl rfl ?_; refine sl_y (yl_loadR1 sym rfl rfl rfl rfl rA hvi rfl) rfl rfl rfl rfl ?_
              refine w_addr (j := i) hi (rA.get _ _ hvi).1 ?_
              refine w_storeW (X := F.flatten ++ (Dp ++ X)) hro (List.Perm.refl _) hi (fun D2 hr2 => ?_)
              refine w_addr (j := r) hrm (rA.get _ _ hvr).1 ?_
              refine w_storeW (X := F.flatten ++ (Dp ++ X)) hr2 (List.Perm.refl _) hrm (fun D3 hr3 => ?_)
              refine sl_perm (M' := D3 ++ (F2.flatten ++ (Dp ++ X))) ?_ ((hF2.symm.append_right (Dp ++ X)).append_left D3)
              try refine run_s ?_
              have hng := Fq.v_neg hd0
              rw [← hng]
              exact sk_cut (E' := [(9, .int .i64 (r : Int)), (8, .int .i64 (c : Int)), (6, .slice pp r cp), (7, .int .i64 ((-d).v : Int)), (0, .int .i64 (P.1 : Int)), (1, .slice pg m cg), (2, .int .i64 (cl : Int))]) ⟨rfl, rfl, rfl, rfl, rfl, rfl, rfl, trivial⟩ ⟨_, D3, F2, -d, hr3, hg2.up uc, (fun e => hd0 (by rw [← La.neg_neg d, e, La.neg_zero])), (fun e => (hrop e).swap (by omega) (by omega) hne), rfl, uc, rfl⟩
            · have hne : r = i := by omega
              subst hne
              try refine run_s ?_
              exact sk_cut (E' := [(9, .int .i64 (r : Int)), (8, .int .i64 (c : Int)), (6, .slice pp r cp), (7, .int .i64 (d.v : Int)), (0, .int .i64 (P.1 : Int)), (1, .slice pg m cg), (2, .int .i64 (cl : Int))]) ⟨rfl, rfl, rfl, rfl, rfl, rfl, rfl, trivial⟩ ⟨svs, Do, F, d, hro, (by rw [La.swap_self]; exact hg), hd0, (by rw [La.swap_self]; exact hrop), rfl, uc, rfl⟩
          rintro E U2 M' ⟨svs, Do, F, d1, hro, hg, hd1, hrop, rfl, hU2, rfl⟩
          have hsl := hro.len
          obtain ⟨g1, hg1⟩ : ∃ g1 : Nat → Nat → Fp P, g1 = La.swap g r i := ⟨_, rfl⟩
          have hgr : ∀ j, g1 r j = g i j := fun j => by rw [hg1, La.swap_at.1]
          have h0 : g1 r c ≠ 0 := by rw [hgr]; exact hq0
          rw [← hg1] at hg hrop
          obtain ⟨q, c', vs, Dr, hvr, hFr, hccr, hRr, helr, hrF, hput⟩ := hg.put (i := r) (by omega)
          have rA := hro.at (U := U2) (M := Do ++ (F.flatten ++ (Dp ++ X))) sb
          have rB := hRr.at (U := U2) (M := Do ++ (F.flatten ++ (Dp ++ X))) (((List.sublist_flatten_of_mem (List.mem_of_getElem? hFr)).trans (List.sublist_append_left ..)).trans sb)
          obtain ⟨v2, hv2⟩ := rB.at hcn
          obtain rfl := helr _ _ hv2
          have hbd := fp_bd d1 (g1 r c) (by omega)
          try refine run_s ?_
          refine sl_y (yl_index sym rfl rfl rfl rfl rfl rfl (rA.lt hvr) (rA.get _ _ hvr).1) rfl rfl rfl rfl ?_; refine sl_y (yl_loadR1 sym rfl rfl rfl rfl rA hvr rfl) rfl rfl rfl rfl ?_
          try refine run_s ?_
          refine sl_y (yl_index sym rfl rfl rfl rfl rfl rfl (rB.lt hv2) (rB.get _ _ hv2).1) rfl rfl rfl rfl ?_; refine sl_y (yl_loadR1 sym rfl rfl rfl rfl rB hv2 rfl) rfl rfl rfl rfl ?_
          try refine run_s ?_
          refine sl_y (yl_fmul (a := d1) (b := g1 r c) rfl rfl rfl hp) rfl rfl rfl rfl ?_
          try refine run_s ?_
          refine sl_y (yl_index sym rfl rfl rfl rfl rfl rfl (rA.lt hvr) (rA.get _ _ hvr).1) rfl rfl rfl rfl ?_; refine sl_y (yl_loadR1 sym rfl rfl rfl rfl rA hvr rfl) rfl rfl rfl rfl ?_
          try refine run_s ?_
          refine sl_y (yl_index sym rfl rfl rfl rfl rfl rfl (rB.lt hv2) (rB.get _ _ hv2).1) rfl rfl rfl rfl ?_; refine sl_y (yl_loadR1 sym rfl rfl rfl rfl rB hv2 rfl) rfl rfl rfl rfl ?_
          try refine run_s ?_
          refine sl_call rfl rfl rfl rfl rfl rfl (fun _ => fInverse_ct h0 (by omega)) ?_
          rintro v U' D hU ⟨rfl, rfl, rfl⟩
          repeat (first | refine run_S ?_ | refine w_box (fun _ => ?_) | refine w_al (fun _ => ?_))
          refine sl_y (yl_index sym rfl rfl rfl rfl rfl rfl (rA.lt hvr) (rA.get _ _ hvr).1) rfl rfl rfl rfl ?_; refine sl_y (yl_loadR1 sym rfl rfl rfl rfl rA hvr rfl) rfl rfl rfl rfl ?_
          try refine run_s ?_
          obtain ⟨y, hy⟩ : ∃ y, y = (g1 r c)⁻¹ := ⟨_, rfl⟩
          rw [← hy]
          refine st_perm (M' := Dr ++ (Do ++ (((F.take r).flatten ++ (F.drop (r + 1)).flatten) ++ (Dp ++ X)))) (pick_pz (pickF hFr)) ?_
          try refine st_anti (M' := Dr ++ (Do ++ (((F.take r).flatten ++ (F.drop (r + 1)).flatten) ++ (Dp ++ X)))) (ULe.refl _) sbk ?_
          refine st_loop (fun z E U' M' => ∃ (j : Nat) (vs : List Value) (Dr : MH), j ≤ n ∧ RowW TInt 1 Dr q n vs ∧ El (Vf P) U' vs (fun t => if t < j then y * g1 r t else g1 r t) ∧ E = [(97, .int .i64 (j : Int)), (96, .int .i64 (n : Int)), (11, .int .i64 (y.v : Int)), (9, .int .i64 (r : Int)), (8, .int .i64 (c : Int)), (6, .slice pp r cp), (7, .int .i64 (((d1 * g1 r c).v : Nat) : Int)), (0, .int .i64 (P.1 : Int)), (1, .slice pg m cg), (2, .int .i64 (cl : Int))] ∧ ULe U2 U' ∧ M' = Dr ++ (Do ++ (((F.take r).flatten ++ (F.drop (r + 1)).flatten) ++ (Dp ++ X))) ∧ z = n - j) (n0 := n - 0) (E0 := [(97, .int .i64 ((0 : Nat) : Int)), (96, .int .i64 (n : Int)), (11, .int .i64 (y.v : Int)), (9, .int .i64 (r : Int)), (8, .int .i64 (c : Int)), (6, .slice pp r cp), (7, .int .i64 (((d1 * g1 r c).v : Nat) : Int)), (0, .int .i64 (P.1 : Int)), (1, .slice pg m cg), (2, .int .i64 (cl : Int))]) ⟨rfl, rfl, rfl, rfl, rfl, rfl, rfl, rfl, rfl, rfl, trivial⟩ ⟨0, vs, Dr, by omega, hRr, (helr.up KeptC.out uc).congr hRr.len (fun t _ => (if_neg (Nat.not_lt_zero t)).symm), rfl, uc, rfl, rfl⟩ ?_
          clear hRr helr rB hv2
          rintro z E U3 M' ⟨j, vs, Dr, hj, hRr, helr, rfl, hU3, rfl, rfl⟩
          try refine run_s ?_
          refine st_dec rfl (fun h5 => ?_) (fun h5 => ?_)
          · have hjn : j < n := by omega
            have rA2 := hro.at (U := U3) (M := Dr ++ (Do ++ (((F.take r).flatten ++ (F.drop (r + 1)).flatten) ++ (Dp ++ X)))) sb
            have rB2 := hRr.at (U := U3) (M := Dr ++ (Do ++ (((F.take r).flatten ++ (F.drop (r + 1)).flatten) ++ (Dp ++ X)))) sb
            obtain ⟨v3, hv3⟩ := rB2.at hjn
            have e3 := helr _ _ hv3
            simp only at e3
            rw [if_neg (Nat.lt_irrefl j)] at e3
            obtain rfl := e3
            have hbd2 := fp_bd (g1 r j) y (by omega)
            try refine run_s ?_
            refine st_drawM [16, 17] [0, 1, 2, 3, 4, 5, 6, 7, 8, 9, 10, 11, 12, 13, 14, 15, 16, 17] sym (by kernel_rfl) ?_
            try refine run_s ?_
            refine sl_y (yl_index sym rfl rfl rfl rfl rfl rfl (rA2.lt hvr) (rA2.get _ _ hvr).1) rfl rfl rfl rfl ?_; refine sl_y (yl_loadR1 sym rfl rfl rfl rfl rA2 hvr rfl) rfl rfl rfl rfl ?_
            try refine run_s ?_
            refine sl_y (yl_index sym rfl rfl rfl rfl rfl rfl (rA2.lt hvr) (rA2.get _ _ hvr).1) rfl rfl rfl rfl ?_; refine sl_y (yl_loadR1 sym rfl rfl rfl rfl rA2 hvr rfl) rfl rfl rfl rfl ?_
            try refine run_s ?_
            refine sl_y (yl_index sym rfl rfl rfl rfl rfl rfl (rB2.lt hv3) (rB2.get _ _ hv3).1) rfl rfl rfl rfl ?_; refine sl_y (yl_loadR1 sym rfl rfl rfl rfl rB2 hv3 rfl) rfl rfl rfl rfl ?_
            try refine run_s ?_
            refine sl_y (yl_fmul (a := g1 r j) (b := y) rfl rfl rfl hp) rfl rfl rfl rfl ?_
            try refine run_s ?_
            refine w_addr (j := j) hjn (rB2.get _ _ hv3).1 ?_
            refine w_storeW (v := .int .i64 (((g1 r j * y).v : Nat) : Int)) hRr (List.Perm.refl _) hjn (fun D4 hr4 => ?_)
            try refine run_s ?_
            have hel4 : El (Vf P) U3 (vs.set j (.int .i64 (((g1 r j * y).v : Nat) : Int))) (fun t => if t < j + 1 then y * g1 r t else g1 r t) := set_ok (fun t x ht hne => by
              have := helr t x ht
              simp only at this ⊢
              by_cases e : t < j
              · rw [if_pos e] at this; rw [if_pos (by omega)]; exact this
              · rw [if_neg e] at this; rw [if_neg (by omega)]; exact this) (by simp only [if_pos (Nat.lt_succ_self j)]; rw [La.mul_comm]; rfl)
            exact sk_again (E' := [(97, .int .i64 ((j : Int) + 1)), (96, .int .i64 (n : Int)), (11, .int .i64 (y.v : Int)), (9, .int .i64 (r : Int)), (8, .int .i64 (c : Int)), (6, .slice pp r cp), (7, .int .i64 (((d1 * g1 r c).v : Nat) : Int)), (0, .int .i64 (P.1 : Int)), (1, .slice pg m cg), (2, .int .i64 (cl : Int))]) (m := n - (j + 1)) ⟨rfl, rfl, rfl, rfl, rfl, rfl, rfl, rfl, rfl, rfl, trivial⟩ (by omega) ⟨j + 1, _, D4, by omega, hr4, hel4, rfl, uc, rfl, rfl⟩
          · obtain rfl : n = j := by omega
            obtain ⟨P1, hP1⟩ : ∃ P1 : Nat → Fp P, P1 = fun t => y * g1 r t := ⟨_, rfl⟩
            have hPe : ∀ t, P1 t = (g1 r c)⁻¹ * g1 r t := fun t => by rw [hP1, hy]
            have hel2 : El (Vf P) U3 vs P1 := helr.congr hRr.len fun t ht => by rw [if_pos ht, hP1]
            have hg2 : Gz (Vf P) zW n U3 svs (F.set r Dr) (La.gst g1 P1 c r 0) := hput U3 Dr vs _ uc hRr (by rw [La.gst_r]; exact hel2) (fun t ht => La.gst_ge ht (Nat.not_lt_zero t))
            refine st_perm (M' := Do ++ ((F.set r Dr).flatten ++ (Dp ++ X))) (pick_pz (putF hrF)).symm ?_
            have hne0 : d1 * g1 r c ≠ 0 := La.mul_ne hd1 h0
            clear hput hRr helr hel2
            generalize F.set r Dr = F2 at hg2
            try refine run_s ?_
            try refine st_anti (M' := Do ++ (F2.flatten ++ (Dp ++ X))) (ULe.refl _) sbk ?_
            refine st_loop (fun z E U' M' => ∃ (k : Nat) (F : List MH), k ≤ m ∧ Gz (Vf P) zW n U' svs F (La.gst g1 P1 c r k) ∧ E = [(120, .int .i64 (k : Int)), (119, .int .i64 (m : Int)), (9, .int .i64 (r : Int)), (8, .int .i64 (c : Int)), (6, .slice pp r cp), (7, .int .i64 (((d1 * g1 r c).v : Nat) : Int)), (0, .int .i64 (P.1 : Int)), (1, .slice pg m cg), (2, .int .i64 (cl : Int))] ∧ ULe U3 U' ∧ M' = Do ++ (F.flatten ++ (Dp ++ X)) ∧ z = m - k) (n0 := m - 0) (E0 := [(120, .int .i64 ((0 : Nat) : Int)), (119, .int .i64 (m : Int)), (9, .int .i64 (r : Int)), (8, .int .i64 (c : Int)), (6, .slice pp r cp), (7, .int .i64 (((d1 * g1 r c).v : Nat) : Int)), (0, .int .i64 (P.1 : Int)), (1, .slice pg m cg), (2, .int .i64 (cl : Int))]) ⟨rfl, rfl, rfl, rfl, rfl, rfl, rfl, rfl, rfl, trivial⟩ ⟨0, F2, by omega, hg2, rfl, uc, rfl, rfl⟩ ?_
            clear hg2
            rintro z E U4 M' ⟨k, F, hk, hg, rfl, hU4, rfl, rfl⟩
            try refine run_s ?_
            refine st_dec rfl (fun h6 => ?_) (fun h6 => ?_)
            · have hkm : k < m := by omega
              obtain ⟨qk, ck, vsk, Dk, hvk, hFk, hcck, hRk, helk, hkF, hput⟩ := hg.put (i := k) (by omega)
              obtain ⟨qr, cr, vsr, Dr, hvr, hFr, hccr, hRr, helr, -, -⟩ := hg.put (i := r) (by omega)
              rw [La.gst_r] at helr
              have rA := hro.at (U := U4) (M := Do ++ (F.flatten ++ (Dp ++ X))) sb
              have rB := hRk.at (U := U4) (M := Do ++ (F.flatten ++ (Dp ++ X))) (((List.sublist_flatten_of_mem (List.mem_of_getElem? hFk)).trans (List.sublist_append_left ..)).trans sb)
              obtain ⟨v4, hv4⟩ := rB.at hcn
              obtain rfl := helk _ _ hv4
              try refine run_s ?_
              refine sl_y (yl_index sym rfl rfl rfl rfl rfl rfl (rA.lt hvk) (rA.get _ _ hvk).1) rfl rfl rfl rfl ?_; refine sl_y (yl_loadR1 sym rfl rfl rfl rfl rA hvk rfl) rfl rfl rfl rfl ?_
              try refine run_s ?_
              refine sl_y (yl_index sym rfl rfl rfl rfl rfl rfl (rB.lt hv4) (rB.get _ _ hv4).1) rfl rfl rfl rfl ?_; refine sl_y (yl_loadR1 sym rfl rfl rfl rfl rB hv4 rfl) rfl rfl rfl rfl ?_
              try refine run_s ?_
              refine sl_gdec rfl rfl (fun h7 => ?_) (fun h7 => ?_)
              · have hkr : k ≠ r := by omega
                rw [La.gst_ge hkr (Nat.lt_irrefl k)] at helk
                simp only [La.gst_ge hkr (Nat.lt_irrefl k)]
                try refine run_s ?_
                refine st_ne rfl (fun h8 => ?_) (fun h8 => ?_)
                · try refine run_s ?_
                  refine sl_y (yl_index sym rfl rfl rfl rfl rfl rfl (rA.lt hvk) (rA.get _ _ hvk).1) rfl rfl rfl rfl ?_; refine sl_y (yl_loadR1 sym rfl rfl rfl rfl rA hvk rfl) rfl rfl rfl rfl ?_
                  try refine run_s ?_
                  refine st_perm (M' := Dk ++ (Do ++ (((F.take k).flatten ++ (F.drop (k + 1)).flatten) ++ (Dp ++ X)))) (pick_pz (pickF hFk)) ?_
                  try refine st_anti (M' := Dk ++ (Do ++ (((F.take k).flatten ++ (F.drop (k + 1)).flatten) ++ (Dp ++ X)))) (ULe.refl _) sbk ?_
                  refine st_loop (fun z E U' M' => ∃ (j : Nat) (vs : List Value) (Dk : MH), j ≤ n ∧ RowW TInt 1 Dk qk n vs ∧ El (Vf P) U' vs (fun t => if t < j then g1 k t + -(g1 k c) * P1 t else g1 k t) ∧ E = [(142, .int .i64 (j : Int)), (141, .int .i64 (n : Int)), (14, .int .i64 (((g1 k c).v : Nat) : Int)), (13, .int .i64 (k : Int)), (120, .int .i64 (k : Int)), (119, .int .i64 (m : Int)), (9, .int .i64 (r : Int)), (8, .int .i64 (c : Int)), (6, .slice pp r cp), (7, .int .i64 (((d1 * g1 r c).v : Nat) : Int)), (0, .int .i64 (P.1 : Int)), (1, .slice pg m cg), (2, .int .i64 (cl : Int))] ∧ ULe U4 U' ∧ M' = Dk ++ (Do ++ (((F.take k).flatten ++ (F.drop (k + 1)).flatten) ++ (Dp ++ X))) ∧ z = n - j) (n0 := n - 0) (E0 := [(142, .int .i64 ((0 : Nat) : Int)), (141, .int .i64 (n : Int)), (14, .int .i64 (((g1 k c).v : Nat) : Int)), (13, .int .i64 (k : Int)), (120, .int .i64 (k : Int)), (119, .int .i64 (m : Int)), (9, .int .i64 (r : Int)), (8, .int .i64 (c : Int)), (6, .slice pp r cp), (7, .int .i64 (((d1 * g1 r c).v : Nat) : Int)), (0, .int .i64 (P.1 : Int)), (1, .slice pg m cg), (2, .int .i64 (cl : Int))]) ⟨rfl, rfl, rfl, rfl, rfl, rfl, rfl, rfl, rfl, rfl, rfl, rfl, rfl, trivial⟩ ⟨0, vsk, Dk, by omega, hRk, (helk.up KeptC.out uc).congr hRk.len (fun t _ => (if_neg (Nat.not_lt_zero t)).symm), rfl, uc, rfl, rfl⟩ ?_
                  clear hRk helk rB hv4
                  rintro z E U5 M' ⟨j, vs, Dk, hj, hRk, helk, rfl, hU5, rfl, rfl⟩
                  try refine run_s ?_
                  refine st_dec rfl (fun h9 => ?_) (fun h9 => ?_)
                  · have hjn : j < n := by omega
                    have rA2 := hro.at (U := U5) (M := Dk ++ (Do ++ (((F.take k).flatten ++ (F.drop (k + 1)).flatten) ++ (Dp ++ X)))) sb
                    have rB2 := hRk.at (U := U5) (M := Dk ++ (Do ++ (((F.take k).flatten ++ (F.drop (k + 1)).flatten) ++ (Dp ++ X)))) sb
                    have rR := hRr.at (U := U5) (M := Dk ++ (Do ++ (((F.take k).flatten ++ (F.drop (k + 1)).flatten) ++ (Dp ++ X)))) (((rest_mem hFr (Ne.symm hkr)).trans (List.sublist_append_left ..)).trans sb)
                    obtain ⟨v5, hv5⟩ := rB2.at hjn
                    have e5 := helk _ _ hv5
                    simp only at e5
                    rw [if_neg (Nat.lt_irrefl j)] at e5
                    obtain rfl := e5
                    obtain ⟨v6, hv6⟩ := rR.at hjn
                    obtain rfl := helr _ _ hv6
                    have hbd3 := f_bd2 (g1 k j) (g1 k c) (P1 j) hp
                    have hfl := (g1 k c).lt
                    try refine run_s ?_
                    refine st_drawM [26, 27] [0, 1, 2, 3, 4, 5, 6, 7, 8, 9, 10, 11, 12, 13, 14, 15, 16, 17, 18, 19, 20, 21, 22, 23, 24, 25, 26, 27] sym (by kernel_rfl) ?_
                    try refine run_s ?_
                    refine sl_y (yl_index sym rfl rfl rfl rfl rfl rfl (rA2.lt hvk) (rA2.get _ _ hvk).1) rfl rfl rfl rfl ?_; refine sl_y (yl_loadR1 sym rfl rfl rfl rfl rA2 hvk rfl) rfl rfl rfl rfl ?_
                    try refine run_s ?_
                    refine sl_y (yl_index sym rfl rfl rfl rfl rfl rfl (rA2.lt hvk) (rA2.get _ _ hvk).1) rfl rfl rfl rfl ?_; refine sl_y (yl_loadR1 sym rfl rfl rfl rfl rA2 hvk rfl) rfl rfl rfl rfl ?_
                    try refine run_s ?_
                    refine sl_y (yl_index sym rfl rfl rfl rfl rfl rfl (rB2.lt hv5) (rB2.get _ _ hv5).1) rfl rfl rfl rfl ?_; refine sl_y (yl_loadR1 sym rfl rfl rfl rfl rB2 hv5 rfl) rfl rfl rfl rfl ?_
                    try refine run_s ?_
                    refine sl_y (yl_index sym rfl rfl rfl rfl rfl rfl (rA2.lt hvr) (rA2.get _ _ hvr).1) rfl rfl rfl rfl ?_; refine sl_y (yl_loadR1 sym rfl rfl rfl rfl rA2 hvr rfl) rfl rfl rfl rfl ?_
                    try refine run_s ?_
                    refine sl_y (yl_index sym rfl rfl rfl rfl rfl rfl (rR.lt hv6) (rR.get _ _ hv6).1) rfl rfl rfl rfl ?_; refine sl_y (yl_loadR1 sym rfl rfl rfl rfl rR hv6 rfl) rfl rfl rfl rfl ?_
                    try refine run_s ?_
                    refine sl_y (yl_fcomb (x := g1 k j) (f := g1 k c) (y := P1 j) rfl rfl rfl hp) rfl rfl rfl rfl ?_
                    try refine run_s ?_
                    refine w_addr (j := j) hjn (rB2.get _ _ hv5).1 ?_
                    refine w_storeW (v := .int .i64 (((g1 k j + -(g1 k c) * P1 j).v : Nat) : Int)) hRk (List.Perm.refl _) hjn (fun D7 hr7 => ?_)
                    try refine run_s ?_
                    have hel7 : El (Vf P) U5 (vs.set j (.int .i64 (((g1 k j + -(g1 k c) * P1 j).v : Nat) : Int))) (fun t => if t < j + 1 then g1 k t + -(g1 k c) * P1 t else g1 k t) := set_ok (fun t x ht hne => by
                      have := helk t x ht
                      simp only at this ⊢
                      by_cases e : t < j
                      · rw [if_pos e] at this; rw [if_pos (by omega)]; exact this
                      · rw [if_neg e] at this; rw [if_neg (by omega)]; exact this) (by simp only [if_pos (Nat.lt_succ_self j)]; rfl)
                    exact sk_again (E' := [(142, .int .i64 ((j : Int) + 1)), (141, .int .i64 (n : Int)), (14, .int .i64 (((g1 k c).v : Nat) : Int)), (13, .int .i64 (k : Int)), (120, .int .i64 (k : Int)), (119, .int .i64 (m : Int)), (9, .int .i64 (r : Int)), (8, .int .i64 (c : Int)), (6, .slice pp r cp), (7, .int .i64 (((d1 * g1 r c).v : Nat) : Int)), (0, .int .i64 (P.1 : Int)), (1, .slice pg m cg), (2, .int .i64 (cl : Int))]) (m := n - (j + 1)) ⟨rfl, rfl, rfl, rfl, rfl, rfl, rfl, rfl, rfl, rfl, rfl, rfl, rfl, trivial⟩ (by omega) ⟨j + 1, _, D7, by omega, hr7, hel7, rfl, uc, rfl, rfl⟩
                  · obtain rfl : n = j := by omega
                    have hnx : Gz (Vf P) zW n U5 svs (F.set k Dk) (La.gst g1 P1 c r (k + 1)) := hput U5 Dk vs _ uc hRk (helk.congr hRk.len fun t ht => by
                      rw [if_pos ht, La.gst_lt hkr (Nat.lt_succ_self k)]; rfl) (fun t ht => by rw [La.gst_next hkr, La.setr_ne _ _ ht])
                    refine st_perm (M' := Do ++ ((F.set k Dk).flatten ++ (Dp ++ X))) (pick_pz (putF hkF)).symm ?_
                    try refine run_s ?_
                    exact sk_again (E' := [(120, .int .i64 ((k : Int) + 1)), (119, .int .i64 (m : Int)), (9, .int .i64 (r : Int)), (8, .int .i64 (c : Int)), (6, .slice pp r cp), (7, .int .i64 (((d1 * g1 r c).v : Nat) : Int)), (0, .int .i64 (P.1 : Int)), (1, .slice pg m cg), (2, .int .i64 (cl : Int))]) (m := m - (k + 1)) ⟨rfl, rfl, rfl, rfl, rfl, rfl, rfl, rfl, rfl, trivial⟩ (by omega) ⟨k + 1, F.set k Dk, by omega, hnx, rfl, uc, rfl, rfl⟩
                · have hq20 : g1 k c = 0 := f_zero.1 h8
                  try refine run_s ?_
                  have hnx : Gz (Vf P) zW n U4 svs F (La.gst g1 P1 c r (k + 1)) := hg.congr (n := m) (by omega) (fun _ _ _ _ h => h.len) (fun a l _ _ => by
                    by_cases e : a = k
                    · subst e
                      rw [La.gst_ge hkr (Nat.lt_irrefl a), La.gst_lt hkr (Nat.lt_succ_self a)]
                      show _ = g1 a l + -(g1 a c) * P1 l
                      rw [hq20, La.neg_zero, La.zero_mul, La.add_zero]
                    · rw [La.gst_next hkr, La.setr_ne _ _ e])
                  exact sk_again (E' := [(120, .int .i64 ((k : Int) + 1)), (119, .int .i64 (m : Int)), (9, .int .i64 (r : Int)), (8, .int .i64 (c : Int)), (6, .slice pp r cp), (7, .int .i64 (((d1 * g1 r c).v : Nat) : Int)), (0, .int .i64 (P.1 : Int)), (1, .slice pg m cg), (2, .int .i64 (cl : Int))]) (m := m - (k + 1)) ⟨rfl, rfl, rfl, rfl, rfl, rfl, rfl, rfl, rfl, trivial⟩ (by omega) ⟨k + 1, F, by omega, hnx, rfl, uc, rfl, rfl⟩
              · obtain rfl : r = k := by omega
                try refine run_s ?_
                have hnx : Gz (Vf P) zW n U4 svs F (La.gst g1 P1 c r (r + 1)) := by rw [La.gst_next_r]; exact hg
                exact sk_again (E' := [(120, .int .i64 ((r : Int) + 1)), (119, .int .i64 (m : Int)), (9, .int .i64 (r : Int)), (8, .int .i64 (c : Int)), (6, .slice pp r cp), (7, .int .i64 (((d1 * g1 r c).v : Nat) : Int)), (0, .int .i64 (P.1 : Int)), (1, .slice pg m cg), (2, .int .i64 (cl : Int))]) (m := m - (r + 1)) ⟨rfl, rfl, rfl, rfl, rfl, rfl, rfl, rfl, rfl, trivial⟩ (by omega) ⟨r + 1, F, by omega, hnx, rfl, uc, rfl, rfl⟩
            · obtain rfl : m = k := by omega
              try refine run_s ?_
              refine w_push (X := Do ++ (F.flatten ++ X)) hrp pf (fun b10 p10 c10 D10 hr10 => ?_)
              refine sl_perm (M' := Do ++ (F.flatten ++ (D10 ++ X))) ?_ pf
              try refine run_s ?_
              have hp10 : El Vi U4 (pvs ++ [.int .i64 (c : Int)]) (fun t => if t < r then p t else c) := snoc_ok hrp.len.1 ((ep.up kept_i uc).congr hrp.len.1 (fun t ht => by simp only [if_pos ht])) (by simp only [if_neg (Nat.lt_irrefl r)]; rfl)
              have hE2 := hE.stepP (p' := fun t => if t < r then p t else c) (g' := La.gst g1 P1 c r m) (P := P1) hri hi hcn hq0 (fun l _ => by rw [hPe, hgr, hgr]) (fun l _ => by rw [La.gst_r]) (fun t ht hne l _ => by rw [La.gst_lt hne ht, hg1]) (fun t ht => if_pos ht) (if_neg (Nat.lt_irrefl r))
              exact sk_again (E' := [(8, .int .i64 ((c : Int) + 1)), (6, .slice p10 (r + 1) c10), (7, .int .i64 ((((d1 * g1 r c).v : Nat) : Int))), (0, .int .i64 (P.1 : Int)), (1, .slice pg m cg), (2, .int .i64 (cl : Int))]) (m := cl - (c + 1)) ⟨rfl, rfl, rfl, rfl, rfl, rfl, trivial⟩ (by omega) ⟨c + 1, r + 1, La.gst g1 P1 c r m, fun t => if t < r then p t else c, svs, Do, F, p10, c10, _, D10, d1 * g1 r c, (((d1 * g1 r c).v : Nat) : Int), rfl, by omega, by omega, hro, hg, hr10, hp10, hne0, hE2, (fun e => by subst e; exact (hrop rfl).step hrm h0 (fun l _ => hPe l)), rfl, uc, rfl, rfl⟩
      · try refine run_s ?_
        refine st_eq rfl (fun _ => ?_) (fun h => absurd h (by omega))
        try refine run_s ?_
        exact sk_again (E' := [(8, .int .i64 ((c : Int) + 1)), (6, .slice pp r cp), (7, .int .i64 ((d.v : Int))), (0, .int .i64 (P.1 : Int)), (1, .slice pg m cg), (2, .int .i64 (cl : Int))]) (m := cl - (c + 1)) ⟨rfl, rfl, rfl, rfl, rfl, rfl, trivial⟩ (by omega) ⟨c + 1, r, g, p, svs, Do, F, pp, cp, pvs, Dp, d, (d.v : Int), rfl, by omega, hr, hro, hg, hrp, ep, hd0, hE.pass (fun s hs => hz (r + s) (by omega) (by omega)), hrop, rfl, uc, rfl, rfl⟩
    · try refine run_s ?_
      exact sk_retX sym rfl (.cons (.tmp rfl) (.cons (.tmp rfl) .nil)) uc sb (.inl rfl) ⟨hU1, hfin (.inr (by omega))⟩
  · try refine run_s ?_
    exact sk_retX sym rfl (.cons (.tmp rfl) (.cons (.tmp rfl) .nil)) uc sb (.inl rfl) ⟨hU1, hfin (.inl (by omega))⟩

end Go.Proofs.Ytlnmhjkagnfnaaa

/- Walks of modmatrix: errors; echelon forms, ranks, determinants. -/
namespace Go.Proofs.Ytlnmhjkagnfnaaa
open Go.Hp
open Go.Fq (Pm Fp Prm)
variable {G : World} {U U' : UH} {M : MH}

theorem ffits_ct {n : Int} :
    Ct Try.prog 76 [.int .i64 n] G U M fun v U' D => v = .bool (decide (0 ≤ n ∧ n ≤ 1024)) ∧ U = U' ∧ D = [] := by
  refine ct_of_st Try.func76 rfl rfl rfl rfl ?_
  repeat (first | refine run_S ?_ | refine w_box (fun _ => ?_) | refine w_al (fun _ => ?_))
  refine sl_gdec rfl rfl (fun h1 => ?_) (fun h1 => ?_)
  · repeat (first | refine run_S ?_ | refine w_box (fun _ => ?_) | refine w_al (fun _ => ?_))
    refine sk_ret [] sym rfl (.cons (.tmp rfl) .nil) (ULe.refl _) sb (.inl rfl) ⟨?_, rfl, rfl⟩
    show Value.bool (dec (n ≤ 1024)) = _
    rw [dec_eq]
    exact congrArg Value.bool (decide_eq_decide.2 ⟨fun h => ⟨by omega, h⟩, fun h => h.2⟩)
  · repeat (first | refine run_S ?_ | refine w_box (fun _ => ?_) | refine w_al (fun _ => ?_))
    exact sk_ret [] sym rfl (.cons (.tmp rfl) .nil) (ULe.refl _) sb (.inl rfl) ⟨tup_f (fun h => h1 (by omega)), rfl, rfl⟩

/-- The first error of a function with a matrix modulo z. -/
noncomputable def errF (z r c : Int) (n : Nat) : Int := if modP z = true then (if Vld r c n then 0 else 4) else 8
theorem fcheck_ct {z r c : Int} {p : Option Addr} {n cc : Nat} (_ : n ≤ 9223372036854775807) :
    Ct Try.prog 47 [.int .i64 z, .agg #[.int .i64 r, .int .i64 c, .slice p n cc]] G U M fun v U' D => v = .int .i64 (errF z r c n) ∧ U = U' ∧ D = [] := by
  refine ct_of_st Try.func47 rfl rfl rfl rfl ?_
  repeat (first | refine run_S ?_ | refine w_box (fun _ => ?_) | refine w_al (fun _ => ?_))
  refine sl_call rfl rfl rfl rfl rfl rfl (fun _ => fprime_ct (z := z)) ?_
  rintro v U' D hU ⟨rfl, rfl, rfl⟩
  repeat (first | refine run_S ?_ | refine w_box (fun _ => ?_) | refine w_al (fun _ => ?_))
  cases hP : modP z with
  | false =>
    repeat (first | refine run_S ?_ | refine w_box (fun _ => ?_) | refine w_al (fun _ => ?_))
    exact sk_ret [] sym rfl (.cons (.tmp rfl) .nil) uc sb (.inl rfl) ⟨by unfold errF; rw [hP]; rfl, rfl, rfl⟩
  | true =>
    have e1 : errF z r c n = if Vld r c n then 0 else 4 := by unfold errF; rw [hP, if_pos rfl]
    rw [e1]
    repeat (first | refine run_S ?_ | refine w_box (fun _ => ?_) | refine w_al (fun _ => ?_))
    refine sl_call rfl rfl rfl rfl rfl rfl (fun _ => ffits_ct (n := r)) ?_
    rintro v U' D hU ⟨rfl, rfl, rfl⟩
    repeat (first | refine run_S ?_ | refine w_box (fun _ => ?_) | refine w_al (fun _ => ?_))
    by_cases h1 : 0 ≤ r ∧ r ≤ 1024
    · rw [decide_eq_true h1]
      repeat (first | refine run_S ?_ | refine w_box (fun _ => ?_) | refine w_al (fun _ => ?_))
      refine sl_call rfl rfl rfl rfl rfl rfl (fun _ => ffits_ct (n := c)) ?_
      rintro v U' D hU ⟨rfl, rfl, rfl⟩
      repeat (first | refine run_S ?_ | refine w_box (fun _ => ?_) | refine w_al (fun _ => ?_))
      by_cases h2 : 0 ≤ c ∧ c ≤ 1024
      · have h3 := mul_1024 h1.1 h1.2 h2.1 h2.2
        rw [decide_eq_true h2]
        repeat (first | refine run_S ?_ | refine w_box (fun _ => ?_) | refine w_al (fun _ => ?_))
        refine st_ne rfl (fun h4 => ?_) (fun h4 => ?_)
        · repeat (first | refine run_S ?_ | refine w_box (fun _ => ?_) | refine w_al (fun _ => ?_))
          exact sk_ret [] sym rfl (.cons (.tmp rfl) .nil) uc sb (.inl rfl) ⟨by rw [if_neg (fun h => h4 h.2.2.2.2)]; rfl, rfl, rfl⟩
        · repeat (first | refine run_S ?_ | refine w_box (fun _ => ?_) | refine w_al (fun _ => ?_))
          exact sk_ret [] sym rfl (.cons (.tmp rfl) .nil) uc sb (.inl rfl) ⟨by rw [if_pos ⟨h1.1, h1.2, h2.1, h2.2, h4⟩]; rfl, rfl, rfl⟩
      · rw [decide_eq_false h2]
        repeat (first | refine run_S ?_ | refine w_box (fun _ => ?_) | refine w_al (fun _ => ?_))
        exact sk_ret [] sym rfl (.cons (.tmp rfl) .nil) uc sb (.inl rfl) ⟨by rw [if_neg (fun h => h2 ⟨h.2.2.1, h.2.2.2.1⟩)]; rfl, rfl, rfl⟩
    · rw [decide_eq_false h1]
      repeat (first | refine run_S ?_ | refine w_box (fun _ => ?_) | refine w_al (fun _ => ?_))
      exact sk_ret [] sym rfl (.cons (.tmp rfl) .nil) uc sb (.inl rfl) ⟨by rw [if_neg (fun h => h1 ⟨h.1, h.2.1⟩)]; rfl, rfl, rfl⟩
theorem errF_ok {P : Pm} {m n : Nat} (hp : P.1 ≤ 65521) (hm : m ≤ 1024) (hn : n ≤ 1024) : errF (P.1 : Int) (m : Int) (n : Int) (m * n) = 0 := by
  unfold errF modP
  rw [if_pos (show (P.1 : Int) ≤ 65521 by omega), isP_iff.2 ⟨by omega, by rw [Int.toNat_natCast]; exact P.2⟩, if_pos rfl, if_pos (vld_of hm hn)]

/-- The error of a function that asks for a square matrix. -/
noncomputable def errS (z r c : Int) (n : Nat) : Int := if errF z r c n = 0 then (if r = c then 0 else 4) else errF z r c n
/-- The reduced echelon form of a matrix modulo a prime. -/
structure EchP {P : Pm} (m n r : Nat) (A R : Nat → Nat → Fp P) (p : Nat → Nat) : Prop where
  ech : La.Ech r n R p
  same : La.Same r m n R A
  le : r ≤ m
theorem _root_.Go.La.Red.echp {P : Pm} {m n r : Nat} {A R : Nat → Nat → Fp P} {p : Nat → Nat} {d : Fp P} (h : La.Red m n n r A R p d) : EchP m n r A R p := by
  refine ⟨h.ech, La.Same.trans ⟨fun i hi => La.Sp.row (by have := h.le; omega), fun i hi => ?_⟩ h.span, h.le⟩
  rcases Nat.lt_or_ge i r with h1 | h1
  · exact La.Sp.row h1
  · exact La.Sp.zero.congr (fun _ _ _ _ => rfl) (fun j hj => (h.zero i j h1 hi hj).symm)
abbrev Ofm (P : Pm) (A : Nat → Nat → Int) : Nat → Nat → Fp P := fun i j => Fq.of P (A i j)

end Go.Proofs.Ytlnmhjkagnfnaaa
