/- Texts of this seat's own, merged: each begins with its own remark. -/
import Derived.Test.YtocjmbilepbokaaGreatM20
import Derived.Test.YtocjmbilepbokaaGreatM19
/- Walks of the reference of layer 9: elimination. -/
namespace Go.Proofs.YtocjmbilepbokaaGreat
open Go.Hp
variable {G : World} {U : UH} {M : MH}

/-- A number of type int. -/
def Vi (_ : UH) (v : Value) (k : Nat) : Prop := v = .int .i64 (k : Int)
theorem kept_i : Kept Vi := fun _ _ _ _ _ h => h

theorem m9cleared_ct {n c b : Nat} {vx vp : Value} {f g : Nat → Rat} (hx : Vr n U vx f) (hp : Vr n U vp g) (hs : ∀ j, j < n → Szq (f j) b) (hs2 : ∀ j, j < n → Szq (g j) b) (hc : c < n) (hb1 : 1 ≤ b) (hb : b ≤ 10000000000) (hn : n ≤ 1000000) :
    Ct Tryz.prog 123 [vx, vp, .int .i64 (c : Int)] G U M fun v U' D => Vr n U' v (La.clr f g c) ∧ D = [] := by
  obtain ⟨px, cx, xs, rfl, hcx, rx, ex⟩ := id hx
  obtain ⟨v1, hv1⟩ := rx.at hc
  obtain ⟨x1, rfl, hx1⟩ := ex _ _ hv1
  have hn1 := hx1.le (hs c hc) (Nat.le_refl _)
  refine ct_of_st Tryz.func123 rfl rfl rfl rfl ?_
  repeat (first | refine run_S ?_ | refine w_box (fun _ => ?_) | refine w_al (fun _ => ?_))
  refine sl_y (yl_index sym rfl rfl rfl rfl rfl rfl ((rx.up uc sb).lt hv1) ((rx.up uc sb).get _ _ hv1).1) rfl rfl rfl rfl ?_; refine sl_y (yl_loadRs sym rfl rfl rfl rfl rfl (rx.up uc sb) hv1) rfl rfl rfl rfl ?_
  refine sl_call rfl rfl rfl rfl rfl rfl (fun _ => rqSign_ct (hx1.rep.up uc sb) (by omega)) ?_
  rintro v U' D hU ⟨rfl, rfl, rfl⟩
  repeat (first | refine run_S ?_ | refine w_box (fun _ => ?_) | refine w_al (fun _ => ?_))
  refine st_eq rfl (fun hq => ?_) (fun hq => ?_)
  · repeat (first | refine run_S ?_ | refine w_box (fun _ => ?_) | refine w_al (fun _ => ?_))
    refine sk_ret [] sym rfl (.cons (.tmp rfl) .nil) uc sb (.inl rfl) ⟨Ls.congr (kept_r _ _ _ _ uc hx) fun j _ => ?_, rfl⟩
    show f j = f j + -(f c) * g j
    rw [rat_num_zero.1 (Int.sign_eq_zero_iff_zero.1 hq)]
    simp [Rat.zero_mul, Rat.add_zero]
  · repeat (first | refine run_S ?_ | refine w_box (fun _ => ?_) | refine w_al (fun _ => ?_))
    refine sl_y (yl_index sym rfl rfl rfl rfl rfl rfl ((rx.up uc sb).lt hv1) ((rx.up uc sb).get _ _ hv1).1) rfl rfl rfl rfl ?_; refine sl_y (yl_loadRs sym rfl rfl rfl rfl rfl (rx.up uc sb) hv1) rfl rfl rfl rfl ?_
    refine sl_call rfl rfl rfl rfl rfl rfl (fun _ => rqNeg_ct (hx1.rep.up uc sb) (by omega)) ?_
    rintro v Uh2 D hU ⟨xh2, rfl, h2, rfl⟩
    repeat (first | refine run_S ?_ | refine w_box (fun _ => ?_) | refine w_al (fun _ => ?_))
    refine sl_call rfl rfl rfl rfl rfl rfl (fun _ => (m9Combine_ct (b := b) ((hx.ls uc).toW hs) (h2.rep.up uc sb) (h2.le (hs c hc).neg (Nat.le_refl _)) ((hp.ls uc).toW hs2) hb1 hb (by omega)).setl kept_q) ?_
    rintro v U4 D hU ⟨h4, rfl⟩
    rw [List.nil_append]
    repeat (first | refine run_S ?_ | refine w_box (fun _ => ?_) | refine w_al (fun _ => ?_))
    exact sk_ret [] sym rfl (.cons (.tmp rfl) .nil) uc sb (.inl rfl) ⟨by exact h4, rfl⟩

theorem clr_sz {n c S T : Nat} {f g : Nat → Rat} (hs : ∀ j, j < n → Szq (f j) S) (hs2 : ∀ j, j < n → Szq (g j) T) (hc : c < n) {j : Nat} (hj : j < n) : Szq (La.clr f g c j) (S + (S + T) + 1) :=
  (hs j hj).add ((hs c hc).neg.mul (hs2 j hj))

theorem m9Reduce_cog {m n k w0 : Nat} {vr : Value} {A0 : Nat → Nat → Rat} (hv : Ls (Vr n) 1 m U M vr A0) (hs : ∀ i j, i < m → j < n → Szq (A0 i j) k) (_ : 1 ≤ k) (hw0 : m ≤ w0 ∨ n ≤ w0) (hg : La.gro k w0 ≤ 1000000000) (hn : n ≤ 1000000) (hm : m ≤ 1000000) :
    Ct Tryz.prog 84 [.int .i64 (n : Int), vr] G U M fun v U' D => ∃ (r : Nat) (R : Nat → Nat → Rat) (p : Nat → Nat) (vR vp : Value) (D1 D2 : MH), v = .tuple #[vR, vp] ∧ Lo (Vr n) TRs 1 r U' D1 vR R ∧ Lo Vi TInt 1 r U' D2 vp p ∧ D = D1 ++ D2 ∧ ULe U U' ∧
      La.Ech r n R p ∧ La.Same r m n R A0 ∧ r ≤ m ∧ ∀ i j, i < r → j < n → Szq (R i j) (La.gro k w0) := by
  obtain ⟨p1, c1, as1, rfl, -, ra, ea⟩ := hv
  refine ct_of_st Tryz.func84 rfl rfl rfl rfl ?_
  repeat (first | refine run_S ?_ | refine w_box (fun _ => ?_) | refine w_al (fun _ => ?_))
  refine w_app0 ra (ea.ones fun _ _ h => one_r h) (fun pa ca Da hra => ?_)
  repeat (first | refine run_S ?_ | refine w_box (fun _ => ?_) | refine w_al (fun _ => ?_))
  refine st_loop (fun z E U' M' => ∃ (c r : Nat) (R : Nat → Nat → Rat) (p : Nat → Nat) (ma : Nat) (A : Nat → Nat → Rat) (pa : Option Addr) (ca : Nat) (avs : List Value) (Da : MH) (po : Option Addr) (co : Nat) (ovs : List Value) (Do : MH) (pp : Option Addr) (cp : Nat) (pvs : List Value) (Dp : MH),
      RowO TRs 1 Da pa ma ca avs ∧ El (Vr n) U' avs A ∧ RowO TRs 1 Do po r co ovs ∧ El (Vr n) U' ovs R ∧ RowO TInt 1 Dp pp r cp pvs ∧ El Vi U' pvs p ∧ La.Elm m n A0 c r R p ma A ∧ c ≤ n ∧ (∀ i j, i < r → j < n → Szq (R i j) (La.gro k r)) ∧ (∀ i j, i < ma → j < n → Szq (A i j) (La.gro k r)) ∧
      E = [(6, .slice pa ma ca), (7, .slice po r co), (8, .slice pp r cp), (9, .int .i64 (c : Int)), (0, .int .i64 (n : Int))] ∧ ULe U U' ∧ M' = Da ++ (Do ++ (Dp ++ M)) ∧ z = n - c) (n0 := n)
    (E0 := [(6, .slice pa m ca), (7, .slice none 0 0), (8, .slice none 0 0), (9, .int .i64 ((0 : Nat) : Int)), (0, .int .i64 (n : Int))]) ⟨rfl, rfl, rfl, rfl, rfl, trivial⟩
    ⟨0, 0, A0, id, m, A0, pa, ca, as1, Da, none, 0, [], [], none, 0, [], [], hra, ea, RowO.nil, El.nil, RowO.nil, El.nil, La.Elm.start, by omega, (fun i j h => absurd h (Nat.not_lt_zero _)), hs, rfl, uc, rfl, rfl⟩ ?_
  clear hra ra ea
  rintro z E U1 M' ⟨c, r, R, p, ma, A, pa, ca, avs, Da, po, co, ovs, Do, pp, cp, pvs, Dp, hra, ea, hro, eo, hrp, ep, hE, hcn, sR, sA, rfl, hU1, rfl, rfl⟩
  have hcnt := hE.cnt
  have hrc := hE.le_c
  have hrw : r ≤ w0 := by omega
  have hrw1 : Hold (c < n → 0 < ma → r + 1 ≤ w0) := ⟨fun h1 h2 => by omega⟩
  clear hw0
  have hmono : La.gro k r ≤ La.gro k w0 := La.gro_le hrw
  have fin : (c = n ∨ ma = 0) → ∃ (r' : Nat) (R' : Nat → Nat → Rat) (p' : Nat → Nat) (vR vp : Value) (D1 D2 : MH), tup [.slice po r co, .slice pp r cp] = .tuple #[vR, vp] ∧ Lo (Vr n) TRs 1 r' U1 D1 vR R' ∧ Lo Vi TInt 1 r' U1 D2 vp p' ∧ Do ++ Dp = D1 ++ D2 ∧ ULe U U1 ∧
      La.Ech r' n R' p' ∧ La.Same r' m n R' A0 ∧ r' ≤ m ∧ ∀ i j, i < r' → j < n → Szq (R' i j) (La.gro k w0) := fun hd => by
    obtain ⟨h1, h2⟩ := hE.done hd
    exact ⟨r, R, p, _, _, Do, Dp, rfl, ⟨_, _, _, rfl, hro, eo⟩, ⟨_, _, _, rfl, hrp, ep⟩, rfl, hU1, h1, h2, by omega, fun i j hi hj => (sR i j hi hj).mono hmono⟩
  try refine run_s ?_
  refine sl_gdec rfl rfl (fun h1 => ?_) (fun h1 => ?_)
  · have hc : c < n := by omega
    try refine run_s ?_
    refine st_dec rfl (fun h2 => ?_) (fun h2 => ?_)
    · try refine run_s ?_
      refine st_loop (fun z E U' M' => ∃ i : Nat, i ≤ ma ∧ (∀ u, u < i → A u c = 0) ∧ E = [(10, .int .i64 (i : Int)), (6, .slice pa ma ca), (7, .slice po r co), (8, .slice pp r cp), (9, .int .i64 (c : Int)), (0, .int .i64 (n : Int))] ∧ U1 = U' ∧ M' = Da ++ (Do ++ (Dp ++ M)) ∧ z = ma - i) (n0 := ma)
        (E0 := [(10, .int .i64 ((0 : Nat) : Int)), (6, .slice pa ma ca), (7, .slice po r co), (8, .slice pp r cp), (9, .int .i64 (c : Int)), (0, .int .i64 (n : Int))]) ⟨rfl, rfl, rfl, rfl, rfl, rfl, trivial⟩ ⟨0, by omega, (fun u hu => absurd hu (Nat.not_lt_zero u)), rfl, rfl, rfl, rfl⟩ ?_
      rintro z E U' M' ⟨i, hi, hz, rfl, rfl, rfl, rfl⟩
      try refine run_s ?_
      refine sl_gdec rfl rfl (fun h3 => ?_) (fun h3 => ?_)
      · have him : i < ma := by omega
        have rA := hra.at (U := U1) (M := Da ++ (Do ++ (Dp ++ M))) sb
        obtain ⟨v1, hv1⟩ := rA.at him
        have e1 := ea _ _ hv1
        obtain ⟨p2, c2, us, rfl, hc2, rw2, el2⟩ := id e1
        obtain ⟨v2, hv2⟩ := rw2.at hc
        obtain ⟨x2, rfl, hx2⟩ := el2 _ _ hv2
        have sx := sA i c him hc
        try refine run_s ?_
        refine sl_y (yl_index sym rfl rfl rfl rfl rfl rfl (rA.lt hv1) (rA.get _ _ hv1).1) rfl rfl rfl rfl ?_; refine sl_y (yl_loadR1 sym rfl rfl rfl rfl rA hv1 rfl) rfl rfl rfl rfl ?_
        try refine run_s ?_
        refine sl_y (yl_index sym rfl rfl rfl rfl rfl rfl ((rw2.up uc sb).lt hv2) ((rw2.up uc sb).get _ _ hv2).1) rfl rfl rfl rfl ?_; refine sl_y (yl_loadRs sym rfl rfl rfl rfl rfl (rw2.up uc sb) hv2) rfl rfl rfl rfl ?_
        refine sl_call rfl rfl rfl rfl rfl rfl (fun _ => rqSign_ct (hx2.rep.up uc sb) (hx2.le sx (by omega))) ?_
        rintro v U' D hU ⟨rfl, rfl, rfl⟩
        repeat (first | refine run_S ?_ | refine w_box (fun _ => ?_) | refine w_al (fun _ => ?_))
        refine st_eq rfl (fun hq => ?_) (fun hq => ?_)
        · try refine run_s ?_
          exact sk_again (E' := [(10, .int .i64 ((i : Int) + 1)), (6, .slice pa ma ca), (7, .slice po r co), (8, .slice pp r cp), (9, .int .i64 (c : Int)), (0, .int .i64 (n : Int))]) (m := ma - (i + 1)) ⟨rfl, rfl, rfl, rfl, rfl, rfl, trivial⟩ (by omega)
            ⟨i + 1, by omega, (fun u hu => by
              rcases Nat.lt_or_eq_of_le (Nat.le_of_lt_succ hu) with h | h
              · exact hz u h
              · rw [h]; exact rat_num_zero.1 (Int.sign_eq_zero_iff_zero.1 hq)), rfl, rfl, rfl, rfl⟩
        · have hne : A i c ≠ 0 := fun e => hq (by rw [e]; rfl)
          try refine run_s ?_
          refine st_eq rfl (fun h => absurd h (by omega)) (fun _ => ?_)
          try refine run_s ?_
          refine st_draw [0, 3, 4, 5, 6, 7, 8, 9, 11, 12, 13, 14, 1, 2, 10, 15, 16] sym (by kernel_rfl) ?_
          try refine run_s ?_
          refine sl_y (yl_index sym rfl rfl rfl rfl rfl rfl (rA.lt hv1) (rA.get _ _ hv1).1) rfl rfl rfl rfl ?_; refine sl_y (yl_loadR1 sym rfl rfl rfl rfl rA hv1 rfl) rfl rfl rfl rfl ?_
          try refine run_s ?_
          refine sl_y (yl_index sym rfl rfl rfl rfl rfl rfl ((rw2.up uc sb).lt hv2) ((rw2.up uc sb).get _ _ hv2).1) rfl rfl rfl rfl ?_; refine sl_y (yl_loadRs sym rfl rfl rfl rfl rfl (rw2.up uc sb) hv2) rfl rfl rfl rfl ?_
          try refine run_s ?_
          refine sl_y (yl_index sym rfl rfl rfl rfl rfl rfl (rA.lt hv1) (rA.get _ _ hv1).1) rfl rfl rfl rfl ?_; refine sl_y (yl_loadR1 sym rfl rfl rfl rfl rA hv1 rfl) rfl rfl rfl rfl ?_
          try refine run_s ?_
          refine sl_call rfl rfl rfl rfl rfl rfl (fun _ => (m9Zeros_ct (n := n) (by omega)).setl kept_q) ?_
          rintro v3 U3 D hU ⟨h3, rfl⟩
          rw [List.nil_append]
          try refine run_s ?_
          refine sl_call rfl rfl rfl rfl rfl rfl (fun _ => rqOf_ct (z := 1) (by decide) (by decide)) ?_
          rintro v Uh4 D hU ⟨xh4, rfl, h4, rfl⟩
          repeat (first | refine run_S ?_ | refine w_box (fun _ => ?_) | refine w_al (fun _ => ?_))
          refine sl_call rfl rfl rfl rfl rfl rfl (fun _ => rqRatio_ct (h4.rep.up uc sb) (h4.le szq_int1 (by omega)) (hx2.rep.up uc sb) (hx2.le sx (by omega))) ?_
          rintro v Uh5 D hU ⟨xh5, rfl, h5, rfl⟩
          repeat (first | refine run_S ?_ | refine w_box (fun _ => ?_) | refine w_al (fun _ => ?_))
          have sr : Szq (((1 : Int) : Rat) / A i c) (1 + La.gro k r) := szq_int1.div sx
          refine sl_call rfl rfl rfl rfl rfl rfl (fun _ => (m9Combine_ct (b := 1 + La.gro k r) (((show Vr n U3 v3 _ from h3).ls uc).toW fun j _ => szq_int0.mono (by omega)) (h5.rep.up uc sb) (h5.le sr (Nat.le_refl _)) ((e1.ls uc).toW fun j hj => (sA i j him hj).mono (by omega)) (by omega) (by omega) (by omega)).setl kept_q) ?_
          rintro v6 U6 D hU ⟨h6, rfl⟩
          obtain ⟨P, hPe⟩ : ∃ P : Nat → Rat, P = fun j => 0 + ((1 : Int) : Rat) / A i c * A i j := ⟨_, rfl⟩
          rw [← hPe] at h6
          have hP : ∀ j, P j = (A i c)⁻¹ * A i j := fun j => by
            rw [hPe]
            show 0 + ((1 : Int) : Rat) / A i c * A i j = _
            rw [Rat.zero_add, Rat.div_def, show ((1 : Int) : Rat) = 1 from rfl, Rat.one_mul]
          have sP : ∀ j, j < n → Szq (P j) (2 * La.gro k r + 3) := fun j hj => by
            rw [hPe]
            exact (szq_int0.add (sr.mul (sA i j him hj))).mono (by omega)
          have hgr : 4 * La.gro k r + 4 ≤ 1000000000 := Nat.le_trans (La.gro_le (k := k) (r := r + 1) (s := w0) (hrw1.out hc (by omega))) hg
          have sC : ∀ {f : Nat → Rat}, (∀ j, j < n → Szq (f j) (La.gro k r)) → ∀ j, j < n → Szq (La.clr f P c j) (La.gro k (r + 1)) := fun hf j hj => (clr_sz hf sP hc hj).mono (by show _ ≤ 4 * La.gro k r + 4; omega)
          clear hPe
          obtain ⟨pq, cq, qs, rfl, hcq, rq, eq⟩ := id h6
          simp only [List.nil_append]
          try refine run_s ?_
          refine st_loop (fun z E U' M' => ∃ (u : Nat) (pr : Option Addr) (cr : Nat) (rvs : List Value) (Dr : MH), u ≤ ma ∧ RowO TRs 1 Dr pr (if u ≤ i then u else u - 1) cr rvs ∧ El (Vr n) U' rvs (fun s => La.clr (A (La.skip i s)) P c) ∧
              E = [(12, .slice pr (if u ≤ i then u else u - 1) cr), (13, .int .i64 (u : Int)), (10, .int .i64 (i : Int)), (11, .slice pq n cq), (6, .slice pa ma ca), (7, .slice po r co), (8, .slice pp r cp), (9, .int .i64 (c : Int)), (0, .int .i64 (n : Int))] ∧ ULe U6 U' ∧ M' = Dr ++ (Da ++ (Do ++ (Dp ++ M))) ∧ z = ma - u) (n0 := ma)
            (E0 := [(12, .slice none 0 0), (13, .int .i64 ((0 : Nat) : Int)), (10, .int .i64 (i : Int)), (11, .slice pq n cq), (6, .slice pa ma ca), (7, .slice po r co), (8, .slice pp r cp), (9, .int .i64 (c : Int)), (0, .int .i64 (n : Int))]) ⟨rfl, rfl, rfl, rfl, rfl, rfl, rfl, rfl, rfl, trivial⟩
            ⟨0, none, 0, [], [], by omega, by rw [if_pos (Nat.zero_le i)]; exact RowO.nil, El.nil, by rw [if_pos (Nat.zero_le i)], uc, rfl, rfl⟩ ?_
          rintro z E U7 M' ⟨u, pr, cr, rvs, Dr, hu, hrr, er, rfl, hU7, rfl, rfl⟩
          try refine run_s ?_
          refine st_dec rfl (fun h7 => ?_) (fun h7 => ?_)
          · have hum : u < ma := by omega
            try refine run_s ?_
            refine st_ne rfl (fun h8 => ?_) (fun h8 => ?_)
            · have hui : u ≠ i := by omega
              have rA2 := hra.at (U := U7) (M := Dr ++ (Da ++ (Do ++ (Dp ++ M)))) sb
              obtain ⟨v8, hv8⟩ := rA2.at hum
              have e8 := (ea.up kept_r uc : El (Vr n) U7 avs A) _ _ hv8
              obtain ⟨p8, c8, us8, rfl, -⟩ := id e8
              try refine run_s ?_
              refine sl_y (yl_index sym rfl rfl rfl rfl rfl rfl (rA2.lt hv8) (rA2.get _ _ hv8).1) rfl rfl rfl rfl ?_; refine sl_y (yl_loadR1 sym rfl rfl rfl rfl rA2 hv8 rfl) rfl rfl rfl rfl ?_
              try refine run_s ?_
              refine sl_call rfl rfl rfl rfl rfl rfl (fun _ => m9cleared_ct (b := 2 * La.gro k r + 3) (kept_r _ _ _ _ uc e8) (kept_r _ _ _ _ uc h6) (fun j hj => (sA u j hum hj).mono (by omega)) sP hc (by omega) (by omega) hn) ?_
              rintro v9 U9 D hU ⟨h9, rfl⟩
              obtain ⟨p9, c9, us9, rfl, -⟩ := id h9
              rw [List.nil_append]
              have hib : (if u ≤ i then u else u - 1) ≤ 1000000 := by split <;> omega
              refine w_push hrr (List.Perm.refl _) (fun bhr2 phr2 chr2 Dhr2 hr2 => ?_)
              repeat (first | refine run_S ?_ | refine w_box (fun _ => ?_) | refine w_al (fun _ => ?_))
              have hsk : La.skip i (if u ≤ i then u else u - 1) = u := by unfold La.skip; split <;> split <;> omega
              have hnx : (if u ≤ i then u else u - 1) + 1 = (if u + 1 ≤ i then u + 1 else u + 1 - 1) := by split <;> split <;> omega
              rw [hnx] at hr2 ⊢
              exact sk_again (E' := [(12, .slice phr2 (if u + 1 ≤ i then u + 1 else u + 1 - 1) chr2), (13, .int .i64 ((u : Int) + 1)), (10, .int .i64 (i : Int)), (11, .slice pq n cq), (6, .slice pa ma ca), (7, .slice po r co), (8, .slice pp r cp), (9, .int .i64 (c : Int)), (0, .int .i64 (n : Int))]) (m := ma - (u + 1)) ⟨rfl, rfl, rfl, rfl, rfl, rfl, rfl, rfl, rfl, trivial⟩ (by omega)
                ⟨u + 1, phr2, chr2, _, Dhr2, by omega, hr2, snoc_ok hrr.len.1 (er.up kept_r uc) (by rw [hsk]; exact h9), rfl, uc, rfl, rfl⟩
            · have hui : u = i := by omega
              have hnx : (if u ≤ i then u else u - 1) = (if u + 1 ≤ i then u + 1 else u + 1 - 1) := by split <;> split <;> omega
              try refine run_s ?_
              rw [hnx] at hrr ⊢
              exact sk_again (E' := [(12, .slice pr (if u + 1 ≤ i then u + 1 else u + 1 - 1) cr), (13, .int .i64 ((u : Int) + 1)), (10, .int .i64 (i : Int)), (11, .slice pq n cq), (6, .slice pa ma ca), (7, .slice po r co), (8, .slice pp r cp), (9, .int .i64 (c : Int)), (0, .int .i64 (n : Int))]) (m := ma - (u + 1)) ⟨rfl, rfl, rfl, rfl, rfl, rfl, rfl, rfl, rfl, trivial⟩ (by omega)
                ⟨u + 1, pr, cr, rvs, Dr, by omega, hrr, er, rfl, uc, rfl, rfl⟩
          · have e : u = ma := by omega
            subst e
            have hnx : (if u ≤ i then u else u - 1) = u - 1 := by split <;> omega
            rw [hnx] at hrr ⊢
            try refine run_s ?_
            refine st_anti (M' := Dr ++ (Do ++ (Dp ++ M))) (ULe.refl _) sbk ?_
            refine st_loop (fun z E U' M' => ∃ (s : Nat) (po : Option Addr) (co : Nat) (ovs : List Value) (Do : MH), s ≤ r ∧ RowO TRs 1 Do po r co ovs ∧ El (Vr n) U' ovs (fun t => if t < s then La.clr (R t) P c else R t) ∧
                E = [(14, .int .i64 (s : Int)), (12, .slice pr (u - 1) cr), (11, .slice pq n cq), (7, .slice po r co), (8, .slice pp r cp), (9, .int .i64 (c : Int)), (0, .int .i64 (n : Int))] ∧ ULe U7 U' ∧ M' = Dr ++ (Do ++ (Dp ++ M)) ∧ z = r - s) (n0 := r)
              (E0 := [(14, .int .i64 ((0 : Nat) : Int)), (12, .slice pr (u - 1) cr), (11, .slice pq n cq), (7, .slice po r co), (8, .slice pp r cp), (9, .int .i64 (c : Int)), (0, .int .i64 (n : Int))]) ⟨rfl, rfl, rfl, rfl, rfl, rfl, rfl, trivial⟩
              ⟨0, po, co, ovs, Do, by omega, hro, (eo.up kept_r uc).congr hro.len.1 (fun s _ => (if_neg (Nat.not_lt_zero s)).symm), rfl, uc, rfl, rfl⟩ ?_
            clear hro eo fin
            rintro z E U8 M' ⟨s, po, co, ovs, Do, hsr, hro, eo, rfl, hU8, rfl, rfl⟩
            try refine run_s ?_
            refine st_dec rfl (fun h9 => ?_) (fun h9 => ?_)
            · have hs' : s < r := by omega
              have rO := hro.at (U := U8) (M := Dr ++ (Do ++ (Dp ++ M))) sb
              obtain ⟨v9, hv9⟩ := rO.at hs'
              have e9 : Vr n U8 v9 (R s) := by
                have := eo _ _ hv9
                simpa using this
              obtain ⟨p9, c9, us9, rfl, -⟩ := id e9
              try refine run_s ?_
              refine sl_y (yl_index sym rfl rfl rfl rfl rfl rfl (rO.lt hv9) (rO.get _ _ hv9).1) rfl rfl rfl rfl ?_; refine sl_y (yl_loadR1 sym rfl rfl rfl rfl rO hv9 rfl) rfl rfl rfl rfl ?_
              try refine run_s ?_
              refine sl_call rfl rfl rfl rfl rfl rfl (fun _ => m9cleared_ct (b := 2 * La.gro k r + 3) (kept_r _ _ _ _ uc e9) (kept_r _ _ _ _ uc h6) (fun j hj => (sR s j hs' hj).mono (by omega)) sP hc (by omega) (by omega) hn) ?_
              rintro v10 U10 D hU ⟨h10, rfl⟩
              obtain ⟨p10, c10, us10, rfl, -⟩ := id h10
              rw [List.nil_append]
              refine w_addr (j := s) hs' (hro.some (by omega)) ?_
              refine w_storeR hro (List.perm_append_comm_assoc ..) hs' (fun D2 hr2 => ?_)
              refine sl_perm ?_ swp0
              try refine run_s ?_
              exact sk_again (E' := [(14, .int .i64 ((s : Int) + 1)), (12, .slice pr (u - 1) cr), (11, .slice pq n cq), (7, .slice po r co), (8, .slice pp r cp), (9, .int .i64 (c : Int)), (0, .int .i64 (n : Int))]) (m := r - (s + 1)) ⟨rfl, rfl, rfl, rfl, rfl, rfl, rfl, trivial⟩ (by omega)
                ⟨s + 1, po, co, _, D2, by omega, hr2, set_ok (fun t x ht hne => by
                  have := (eo.up (U' := U10) kept_r uc) t x ht
                  simp only at this ⊢
                  by_cases e : t < s
                  · rw [if_pos e] at this; rw [if_pos (by omega)]; exact this
                  · rw [if_neg e] at this; rw [if_neg (by omega)]; exact this) (by simp only [if_pos (Nat.lt_succ_self s)]; exact h10), rfl, uc, rfl, rfl⟩
            · have e : s = r := by omega
              subst e
              try refine run_s ?_
              refine w_push (X := Dr ++ (Dp ++ M)) hro pm (fun b1 p1 c1 D1 hr1 => ?_)
              try refine run_s ?_
              refine w_push (X := D1 ++ (Dr ++ M)) hrp pm (fun b2 p2 c2 D2 hr2 => ?_)
              try refine run_s ?_
              refine sk_perm (M' := Dr ++ (D1 ++ (D2 ++ M))) pm ?_
              refine sk_again (E' := [(6, .slice pr (u - 1) cr), (7, .slice p1 (s + 1) c1), (8, .slice p2 (s + 1) c2), (9, .int .i64 ((c : Int) + 1)), (0, .int .i64 (n : Int))]) (m := n - (c + 1)) ⟨rfl, rfl, rfl, rfl, rfl, trivial⟩ (by omega)
                ⟨c + 1, s + 1, fun t => if t < s then La.clr (R t) P c else P, fun t => if t < s then p t else c, u - 1, fun t => La.clr (A (La.skip i t)) P c, pr, cr, rvs, Dr, p1, c1, _, D1, p2, c2, _, D2, hrr, er.up kept_r uc, hr1,
                  snoc_ok hro.len.1 (((eo.up kept_r uc).congr hro.len.1 (fun t ht => by simp only [if_pos ht]))) (by simp only [if_neg (Nat.lt_irrefl s)]; exact kept_r _ _ _ _ uc h6), hr2,
                  snoc_ok hrp.len.1 ((ep.up kept_i uc).congr hrp.len.1 (fun t ht => by simp only [if_pos ht])) (by simp only [if_neg (Nat.lt_irrefl s)]; rfl),
                  hE.step hc him hne (fun j _ => hP j) (fun t j ht _ => by simp only [if_pos ht]) (fun j _ => by simp only [if_neg (Nat.lt_irrefl s)]) (fun t ht => if_pos ht) (if_neg (Nat.lt_irrefl s)) ?_ ?_, by omega, ?_, ?_, rfl, uc, rfl, rfl⟩
              · intro t ht
                exact ⟨La.skip i t, by unfold La.skip; split <;> omega, by unfold La.skip; split <;> omega, fun _ _ => rfl⟩
              · intro t ht htn
                refine ⟨if t < i then t else t - 1, by split <;> omega, fun j _ => ?_⟩
                rw [show La.skip i (if t < i then t else t - 1) = t by
                  unfold La.skip
                  by_cases e : t < i
                  · rw [if_pos e, if_pos e]
                  · rw [if_neg e, if_neg (by omega)]; omega]
              · intro t j ht hj
                by_cases e : t < s
                · simp only [if_pos e]; exact sC (fun j hj => sR t j e hj) j hj
                · simp only [if_neg e]; exact (sP j hj).mono (by show _ ≤ 4 * La.gro k s + 4; omega)
              · intro t j ht hj
                exact sC (fun j hj => sA _ j (by unfold La.skip; split <;> omega) hj) j hj
      · try refine run_s ?_
        refine st_eq rfl (fun _ => ?_) (fun h => absurd h (by omega))
        try refine run_s ?_
        exact sk_again (E' := [(6, .slice pa ma ca), (7, .slice po r co), (8, .slice pp r cp), (9, .int .i64 ((c : Int) + 1)), (0, .int .i64 (n : Int))]) (m := n - (c + 1)) ⟨rfl, rfl, rfl, rfl, rfl, trivial⟩ (by omega)
          ⟨c + 1, r, R, p, ma, A, pa, ca, avs, Da, po, co, ovs, Do, pp, cp, pvs, Dp, hra, ea, hro, eo, hrp, ep, hE.pass (fun u hu => hz u (by omega)), by omega, sR, sA, rfl, uc, rfl, rfl⟩
    · try refine run_s ?_
      exact sk_ret (Do ++ Dp) sym rfl (.cons (.tmp rfl) (.cons (.tmp rfl) .nil)) uc sb (.inl rfl) (fin (.inr (by omega)))
  · try refine run_s ?_
    exact sk_ret (Do ++ Dp) sym rfl (.cons (.tmp rfl) (.cons (.tmp rfl) .nil)) uc sb (.inl rfl) (fin (.inl (by omega)))

theorem m9Reduce_co {m n k : Nat} {vr : Value} {A0 : Nat → Nat → Rat} (hv : Ls (Vr n) 1 m U M vr A0) (hs : ∀ i j, i < m → j < n → Szq (A0 i j) k) (hk1 : 1 ≤ k) (hg : La.gro k m ≤ 1000000000) (hn : n ≤ 1000000) (hm : m ≤ 1000000) :
    Ct Tryz.prog 84 [.int .i64 (n : Int), vr] G U M fun v U' D => ∃ (r : Nat) (R : Nat → Nat → Rat) (p : Nat → Nat) (vR vp : Value) (D1 D2 : MH), v = .tuple #[vR, vp] ∧ Lo (Vr n) TRs 1 r U' D1 vR R ∧ Lo Vi TInt 1 r U' D2 vp p ∧ D = D1 ++ D2 ∧ ULe U U' ∧
      La.Ech r n R p ∧ La.Same r m n R A0 ∧ r ≤ m ∧ ∀ i j, i < r → j < n → Szq (R i j) (La.gro k m) := m9Reduce_cog hv hs hk1 (.inl (Nat.le_refl m)) hg hn hm

end Go.Proofs.YtocjmbilepbokaaGreat

/- Walks of the reference of layer 9: echelon forms, ranks, transposes, traces, sums. -/
namespace Go.Proofs.YtocjmbilepbokaaGreat
open Go.Hp
variable {G : World} {U : UH} {M : MH}

theorem m9Reduce_ct {m n k : Nat} {vr : Value} {A0 : Nat → Nat → Rat} (hv : Ls (Vr n) 1 m U M vr A0) (hs : ∀ i j, i < m → j < n → Szq (A0 i j) k) (hk1 : 1 ≤ k) (hg : La.gro k m ≤ 1000000000) (hn : n ≤ 1000000) (hm : m ≤ 1000000) :
    Ct Tryz.prog 84 [.int .i64 (n : Int), vr] G U M fun v U' D => ∃ (r : Nat) (R : Nat → Nat → Rat) (p : Nat → Nat) (vR vp : Value), v = .tuple #[vR, vp] ∧ Ls (Vr n) 1 r U' [] vR R ∧ Ls Vi 1 r U' [] vp p ∧ D = [] ∧
      La.Ech r n R p ∧ La.Same r m n R A0 ∧ r ≤ m ∧ ∀ i j, i < r → j < n → Szq (R i j) (La.gro k m) :=
  (m9Reduce_co hv hs hk1 hg hn hm).settle.mono fun _ _ _ _ ⟨h1, _, _, ⟨r, R, p, vR, vp, _, _, h2, h3, h4, h5, _, h6⟩, _, h7, h8⟩ =>
    ⟨r, R, p, vR, vp, h2, h3.sett kept_r h7 (h5 ▸ h8).left, h4.sett kept_i h7 (h5 ▸ h8).right, h1, h6⟩

/-- The echelon form of A: r rows, R; their pivots p. -/
structure EchOf (m n r : Nat) (A R : Nat → Nat → Rat) (p : Nat → Nat) : Prop where
  ech : La.Ech r n R p
  same : La.Same r m n R A
  le : r ≤ m

theorem m9Echelon_ct {m n b : Nat} {vm : Value} {A : Nat → Nat → Rat} (hm : Vm (Wq b) m n U vm A) (hb1 : 1 ≤ b) (hg : La.gro b m ≤ 1000000000) (hm1 : m ≤ 1000) (hn1 : n ≤ 1000) :
    Ct Tryz.prog 67 [vm] G U M fun v U' D => ∃ (r : Nat) (R : Nat → Nat → Rat) (p : Nat → Nat) (vR vp : Value), v = .tuple #[vR, vp] ∧ Vm Vq r n U' vR R ∧ Ls Vi 1 r U' [] vp p ∧ D = [] ∧
      EchOf m n r A R p ∧ ∀ i j, i < r → j < n → Szq (R i j) (La.gro b m) := by
  have hmn : m * n ≤ 1000 * 1000 := Nat.mul_le_mul hm1 hn1
  have hb : b ≤ 1000000000 := Nat.le_trans (La.gro_le (k := b) (Nat.zero_le m)) hg
  have hm2 := hm
  obtain ⟨_, rfl, pm, cm, ms, rfl, -⟩ := hm
  refine ct_of_st Tryz.func67 rfl rfl rfl rfl ?_
  repeat (first | refine run_S ?_ | refine w_box (fun _ => ?_) | refine w_al (fun _ => ?_))
  refine st_draw [0, 1, 2, 3, 4, 5, 6, 7, 8, 9] sym (by kernel_rfl) ?_
  try refine run_s ?_
  refine sl_call rfl rfl rfl rfl rfl rfl (fun _ => ct_setg (m9Rows_co (kept_m kept_w _ _ _ _ uc hm2) (by omega) (by omega) (by omega) (by omega))) ?_
  rintro v1 U1 D hU ⟨h1, rfl⟩
  rw [List.nil_append]
  try refine run_s ?_
  refine sl_call rfl rfl rfl rfl rfl rfl (fun _ => m9Reduce_ct (k := b) (Ls.up (M' := _) h1 kept_r uc sb) (fun i j hi hj => hm2.sz hb1 hi hj) hb1 hg (by omega) (by omega)) ?_
  rintro v2 U2 D hU ⟨r, R, p, vR, vp, rfl, h2, h3, rfl, h4, h5, h6, h7⟩
  rw [List.nil_append]
  have hrn : r * n ≤ 1000 * 1000 := Nat.mul_le_mul (by omega) hn1
  obtain ⟨pr, cr, rs, rfl, -⟩ := id h2
  obtain ⟨pp, cp, ps, rfl, -⟩ := id h3
  repeat (first | refine run_S ?_ | refine w_box (fun _ => ?_) | refine w_al (fun _ => ?_))
  refine sl_call rfl rfl rfl rfl rfl rfl (fun _ => ct_setm (m9Of_ct (b := La.gro b m) (Ls.toWr (Ls.up (M' := _) h2 kept_r uc sb) h7) (by omega) (by omega) (by omega) (by omega))) ?_
  rintro vh8 Uh8 D hU ⟨h8, rfl⟩
  rw [List.nil_append]
  repeat (first | refine run_S ?_ | refine w_box (fun _ => ?_) | refine w_al (fun _ => ?_))
  obtain ⟨_, rfl, pa, ca, va, rfl, h9⟩ := h8
  repeat (first | refine run_S ?_ | refine w_box (fun _ => ?_) | refine w_al (fun _ => ?_))
  exact sk_ret [] sym rfl (.cons (.cell 0 rfl rfl rfl) (.cons (.tmp rfl) .nil)) uc sb (.inl rfl) ⟨r, R, p, _, _, rfl, ⟨_, rfl, pa, ca, va, rfl, h9⟩, Ls.up h3 kept_i uc sb, rfl, ⟨h4, h5, h6⟩, h7⟩

end Go.Proofs.YtocjmbilepbokaaGreat
