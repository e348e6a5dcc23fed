/- Walks of the reference of layer 9: determinants by the first row. -/
import Derived.Test.YtpigpikhjlmdoaaGreatM21
namespace Go.Proofs.YtpigpikhjlmdoaaGreat
open Go.Hp
variable {G : World} {U : UH} {M : MH}

/-- How long a determinant may be. -/
def dsz (k : Nat) : Nat → Nat
  | 0 => 1
  | n + 1 => 1 + (n + 1) * (k + dsz k n + 1)
theorem szq_sgn {q : Rat} {k : Nat} (h : Szq q k) : ∀ j, Szq (La.sgn j * q) k
  | 0 => by rw [show (La.sgn 0 : Rat) = 1 from rfl, Rat.one_mul]; exact h
  | j + 1 => by
    rw [show (La.sgn (j + 1) : Rat) = -La.sgn j from rfl, Rat.neg_mul]; exact (szq_sgn h j).neg
theorem dsz_pos (k n : Nat) : 1 ≤ dsz k n := by cases n <;> simp only [dsz] <;> omega
theorem det_sz {k : Nat} : ∀ {n : Nat} {A : Nat → Nat → Rat}, (∀ i j, i < n → j < n → Szq (A i j) k) → Szq (La.det n A) (dsz k n)
  | 0, _, _ => szq_int1
  | n + 1, A, h => by
    unfold La.det dsz
    exact szq_sm fun j hj => szq_sgn ((h 0 j (by omega) hj).mul (det_sz (n := n) fun i l hi hl => h _ _ (by omega) (La.skip_lt hl))) j
theorem sgn_odd : ∀ j : Nat, (La.sgn j : Rat) = if j % 2 = 1 then -1 else 1
  | 0 => rfl
  | j + 1 => by
    show -La.sgn j = _
    rw [sgn_odd j]
    by_cases h : j % 2 = 1
    · rw [if_pos h, if_neg (by omega)]; rfl
    · rw [if_neg h, if_pos (by omega)]

theorem m9Det_ct {k : Nat} : ∀ (n : Nat) {G : World} {U : UH} {M : MH} {vr : Value} {A : Nat → Nat → Rat}, Ls (Vr n) 1 n U M vr A → (∀ i j, i < n → j < n → Szq (A i j) k) → 1 ≤ k → k ≤ 1000000000 → dsz k n ≤ 1000000000 → n ≤ 1000 →
    Ct Tryz.prog 43 [vr] G U M fun v U' D => Vq U' v (La.det n A) ∧ D = []
  | 0, G, U, M, vr, A, hv, hs, hk1, hk, hd, hn => by
    obtain ⟨p1, c1, as1, rfl, -, ra, ea⟩ := hv
    refine ct_of_st Tryz.func43 rfl rfl rfl rfl ?_
    repeat (first | refine run_S ?_ | refine w_box (fun _ => ?_) | refine w_al (fun _ => ?_))
    refine st_eq rfl (fun _ => ?_) (fun h => absurd rfl h)
    repeat (first | refine run_S ?_ | refine w_box (fun _ => ?_) | refine w_al (fun _ => ?_))
    refine sl_call rfl rfl rfl rfl rfl rfl (fun _ => rqOf_ct (z := 1) (by decide) (by decide)) ?_
    rintro v Uh1 D hU ⟨xh1, rfl, h1, rfl⟩
    repeat (first | refine run_S ?_ | refine w_box (fun _ => ?_) | refine w_al (fun _ => ?_))
    exact sk_ret [] sym rfl (.cons (.cell 0 rfl rfl rfl) .nil) uc sb (.inl rfl) ⟨⟨xh1, rfl, h1⟩, rfl⟩
  | n + 1, G, U, M, vr, A, hv, hs, hk1, hk, hd, hn => by
    have IH := @m9Det_ct k n
    have hd0 := dsz_pos k n
    have hdn : 1 + (n + 1) * (k + dsz k n + 1) ≤ 1000000000 := hd
    have hd2 : k + dsz k n ≤ 1000000000 := by
      have := Nat.mul_le_mul_right (k + dsz k n + 1) (show 1 ≤ n + 1 by omega)
      omega
    have sM : ∀ j, Szq (La.det n (La.minor A j)) (dsz k n) := fun j => det_sz fun i l hi hl => hs _ _ (by omega) (La.skip_lt hl)
    obtain ⟨p1, c1, as1, rfl, -, ra, ea⟩ := hv
    obtain ⟨v0, hv0⟩ := ra.at (k := 0) (by omega)
    have e0 := ea _ _ hv0
    obtain ⟨p0, c0, us0, rfl, -, r0, el0⟩ := id e0
    refine ct_of_st Tryz.func43 rfl rfl rfl rfl ?_
    repeat (first | refine run_S ?_ | refine w_box (fun _ => ?_) | refine w_al (fun _ => ?_))
    rename_i b2
    refine st_eq rfl (fun h => absurd h (by omega)) (fun hn0 => ?_)
    clear hn0
    repeat (first | refine run_S ?_ | refine w_box (fun _ => ?_) | refine w_al (fun _ => ?_))
    refine sl_call rfl rfl rfl rfl rfl rfl (fun _ => rqOf_ct (z := 0) (by decide) (by decide)) ?_
    rintro v Uh1 D hU ⟨xh1, rfl, h1, rfl⟩
    repeat (first | refine run_S ?_ | refine w_box (fun _ => ?_) | refine w_al (fun _ => ?_))
    rename_i b3
    refine st_loop (fun z E U' M' => ∃ (j : Nat) (xo : QV), j ≤ n + 1 ∧ xo.nrm U' [] (La.sm j fun j => La.sgn j * (A 0 j * La.det n (La.minor A j))) ∧ E = [(3, .pointer (some ⟨b3, 0, none⟩)), (4, .int .i64 (j : Int)), (0, .slice p1 (n + 1) c1), (2, .pointer (some ⟨b2, 0, none⟩))] ∧ ULe Uh1 U' ∧
        M' = (b3, .var xo.v, TR) :: (b2, .var zeroQV.v, TR) :: M ∧ z = n + 1 - j) (n0 := n + 1)
      (E0 := [(3, .pointer (some ⟨b3, 0, none⟩)), (4, .int .i64 ((0 : Nat) : Int)), (0, .slice p1 (n + 1) c1), (2, .pointer (some ⟨b2, 0, none⟩))]) ⟨rfl, rfl, rfl, rfl, trivial⟩ ⟨0, xh1, by omega, h1, rfl, uc, rfl, rfl⟩ ?_
    clear h1
    rintro z E U1 M' ⟨j, xo, hj, ho, rfl, hU1, rfl, rfl⟩
    try refine run_s ?_
    refine st_dec rfl (fun h => ?_) (fun h => ?_)
    · have hjn : j < n + 1 := by omega
      obtain ⟨v1, hv1⟩ := r0.at hjn
      obtain ⟨x1, rfl, hx1⟩ := el0 _ _ hv1
      have s1 := hs 0 j (by omega) hjn
      have so : Szq (La.sm j fun j => La.sgn j * (A 0 j * La.det n (La.minor A j))) 1000000000 := (szq_sm fun i hi => szq_sgn ((hs 0 i (by omega) (by omega)).mul (sM i)) i).mono (by
        have := Nat.mul_le_mul_right (k + dsz k n + 1) hj
        omega)
      try refine run_s ?_
      refine sl_y (yl_index sym rfl rfl rfl rfl rfl rfl ((ra.up uc sb).lt hv0) ((ra.up uc sb).get _ _ hv0).1) rfl rfl rfl rfl ?_; refine sl_y (yl_loadR1 sym rfl rfl rfl rfl (ra.up uc sb) hv0 rfl) rfl rfl rfl rfl ?_
      try refine run_s ?_
      refine sl_y (yl_index sym rfl rfl rfl rfl rfl rfl ((r0.up uc sb).lt hv1) ((r0.up uc sb).get _ _ hv1).1) rfl rfl rfl rfl ?_; refine sl_y (yl_loadRs sym rfl rfl rfl rfl rfl (r0.up uc sb) hv1) rfl rfl rfl rfl ?_
      refine sl_call rfl rfl rfl rfl rfl rfl (fun _ => rqSign_ct (hx1.rep.up uc sb) (hx1.le s1 (by omega))) ?_
      rintro v U' D hU ⟨rfl, rfl, rfl⟩
      repeat (first | refine run_S ?_ | refine w_box (fun _ => ?_) | refine w_al (fun _ => ?_))
      refine st_eq rfl (fun hq => ?_) (fun hq => ?_)
      · try refine run_s ?_
        refine sk_again (E' := [(3, .pointer (some ⟨b3, 0, none⟩)), (4, .int .i64 ((j : Int) + 1)), (0, .slice p1 (n + 1) c1), (2, .pointer (some ⟨b2, 0, none⟩))]) (m := n + 1 - (j + 1)) ⟨rfl, rfl, rfl, rfl, trivial⟩ (by omega)
          ⟨j + 1, xo, by omega, ?_, rfl, uc, rfl, rfl⟩
        rw [← sm_snoc, rat_num_zero.1 (Int.sign_eq_zero_iff_zero.1 hq), Rat.zero_mul, Rat.mul_zero, Rat.add_zero]
        exact ho
      · try refine run_s ?_
        refine st_loop (fun z E U' M' => ∃ (i : Nat) (P : Option Addr) (C : Nat) (mvs : List Value) (D : MH) (F : List MH), i ≤ n ∧ RowO TRs 1 D P i C mvs ∧ Gs rO n U' mvs F (La.minor A j) ∧ E = [(5, .slice P i C), (6, .int .i64 ((i + 1 : Nat) : Int)), (3, .pointer (some ⟨b3, 0, none⟩)), (4, .int .i64 (j : Int)), (0, .slice p1 (n + 1) c1), (2, .pointer (some ⟨b2, 0, none⟩))] ∧ ULe U1 U' ∧
            M' = (b3, .var xo.v, TR) :: (b2, .var zeroQV.v, TR) :: (D ++ (F.flatten ++ M)) ∧ z = n - i) (n0 := n)
          (E0 := [(5, .slice none 0 0), (6, .int .i64 ((0 + 1 : Nat) : Int)), (3, .pointer (some ⟨b3, 0, none⟩)), (4, .int .i64 (j : Int)), (0, .slice p1 (n + 1) c1), (2, .pointer (some ⟨b2, 0, none⟩))]) ⟨rfl, rfl, rfl, rfl, rfl, rfl, trivial⟩ ⟨0, none, 0, [], [], [], by omega, RowO.nil, Gs.nil, rfl, uc, rfl, rfl⟩ ?_
        rintro z E U2 M' ⟨i, P, C, mvs, D, F, hi, hrow, hg, rfl, hU2, rfl, rfl⟩
        try refine run_s ?_
        refine st_dec rfl (fun h2 => ?_) (fun h2 => ?_)
        · have hin : i < n := by omega
          obtain ⟨v3, hv3⟩ := ra.at (k := i + 1) (by omega)
          have e3 := ea _ _ hv3
          obtain ⟨p3, c3, us3, rfl, hc3, r3, el3⟩ := id e3
          try refine run_s ?_
          refine st_drawM [16, 17, 18, 19] [0, 2, 3, 4, 5, 6, 7, 9, 10, 11, 12, 13, 14, 15, 1, 8, 16, 17, 18, 19] sym (by kernel_rfl) ?_
          try refine run_s ?_
          refine sl_y (yl_index sym rfl rfl rfl rfl rfl rfl ((ra.up uc sb).lt hv3) ((ra.up uc sb).get _ _ hv3).1) rfl rfl rfl rfl ?_; refine sl_y (yl_loadR1 sym rfl rfl rfl rfl (ra.up uc sb) hv3 rfl) rfl rfl rfl rfl ?_
          try refine run_s ?_
          refine w_sTo (h := j) (c := c3) (by omega) ?_
          try refine run_s ?_
          refine sl_y (yl_index sym rfl rfl rfl rfl rfl rfl ((ra.up uc sb).lt hv3) ((ra.up uc sb).get _ _ hv3).1) rfl rfl rfl rfl ?_; refine sl_y (yl_loadR1 sym rfl rfl rfl rfl (ra.up uc sb) hv3 rfl) rfl rfl rfl rfl ?_
          try refine run_s ?_
          refine w_sFrom (lo := j + 1) (n := n + 1) (by omega) hc3 ?_
          refine w_bs0 (fun bo => ?_)
          have hone := el3.ones fun _ _ h => one_q h
          refine w_app0 ((r3.up (M' := (bo, .arr [], TR) :: (b3, .var xo.v, TR) :: (b2, .var zeroQV.v, TR) :: (D ++ (F.flatten ++ M))) uc sb).take (k := j) (by omega)) (fun v hv => hone v (List.mem_of_mem_take hv)) (fun p4 c4 D4 h4 => ?_)
          refine w_app h4 (List.Perm.refl _) ((r3.up (M' := D4 ++ (bo, .arr [], TR) :: (b3, .var xo.v, TR) :: (b2, .var zeroQV.v, TR) :: (D ++ (F.flatten ++ M))) uc sb).drop (l := j + 1) (by omega) hc3) (fun v hv => hone v (List.mem_of_mem_drop hv)) (fun p5 c5 D5 h5 => ?_)
          have hlen : j + (n + 1 - (j + 1)) = n := by omega
          rw [hlen] at h5 ⊢
          refine w_push (X := (b3, .var xo.v, TR) :: (b2, .var zeroQV.v, TR) :: (bo, .arr [], TR) :: (D5 ++ (F.flatten ++ M))) hrow pm (fun b6 p6 c6 D6 h6 => ?_)
          refine sl_perm (M' := (b3, .var xo.v, TR) :: (b2, .var zeroQV.v, TR) :: (bo, .arr [], TR) :: (D6 ++ ((F ++ [D5]).flatten ++ M))) ?_ pm
          refine sl_drop (M' := (b3, .var xo.v, TR) :: (b2, .var zeroQV.v, TR) :: (D6 ++ ((F ++ [D5]).flatten ++ M))) sbk ?_
          try refine run_s ?_
          refine sk_again (E' := [(5, .slice p6 (i + 1) c6), (6, .int .i64 (((i + 1 : Nat) : Int) + 1)), (3, .pointer (some ⟨b3, 0, none⟩)), (4, .int .i64 (j : Int)), (0, .slice p1 (n + 1) c1), (2, .pointer (some ⟨b2, 0, none⟩))]) (m := n - (i + 1)) ⟨rfl, rfl, rfl, rfl, rfl, rfl, trivial⟩ (by omega)
            ⟨i + 1, p6, c6, _, D6, F ++ [D5], by omega, h6, hg.snoc hrow.len.1 h5.len.2.1 h5 ?_, rfl, uc, rfl, rfl⟩
          intro t x ht
          show Vq U2 x (A (i + 1) (La.skip j t))
          have hl := r3.len
          rcases Nat.lt_or_ge t j with h7 | h7
          · rw [List.getElem?_append_left (by rw [List.length_take]; omega), List.getElem?_take, if_pos h7] at ht
            rw [show La.skip j t = t by unfold La.skip; rw [if_pos h7]]
            exact kept_q _ _ _ _ uc (el3 t x ht)
          · rw [List.getElem?_append_right (by rw [List.length_take]; omega), List.getElem?_drop, List.length_take, show j + 1 + (t - min j us3.length) = t + 1 by omega] at ht
            rw [show La.skip j t = t + 1 by unfold La.skip; rw [if_neg (by omega)]]
            exact kept_q _ _ _ _ uc (el3 (t + 1) x ht)
        · have e : i = n := by omega
          subst e
          try refine run_s ?_
          refine st_perm (M' := F.flatten ++ ((b3, .var xo.v, TR) :: (b2, .var zeroQV.v, TR) :: (D ++ M))) pm ?_
          refine st_settleAll fun U3 hU3 hs3 => ?_
          have hel := hg.sett hU3 hs3
          refine st_drawM [10] [0, 1, 2, 3, 4, 5, 6, 7, 8, 9, 10] sym (by kernel_rfl) ?_
          try refine run_s ?_
          refine sl_y (yl_index sym rfl rfl rfl rfl rfl rfl ((ra.up uc sb).lt hv0) ((ra.up uc sb).get _ _ hv0).1) rfl rfl rfl rfl ?_; refine sl_y (yl_loadR1 sym rfl rfl rfl rfl (ra.up uc sb) hv0 rfl) rfl rfl rfl rfl ?_
          try refine run_s ?_
          refine sl_y (yl_index sym rfl rfl rfl rfl rfl rfl ((r0.up uc sb).lt hv1) ((r0.up uc sb).get _ _ hv1).1) rfl rfl rfl rfl ?_; refine sl_y (yl_loadRs sym rfl rfl rfl rfl rfl (r0.up uc sb) hv1) rfl rfl rfl rfl ?_
          try refine run_s ?_
          refine sl_call rfl rfl rfl rfl rfl rfl (fun _ => IH (Lo.at ⟨P, C, mvs, rfl, hrow, hel⟩ sb |>.up kept_r uc sb) (fun a d ha hd => hs _ _ (by omega) (La.skip_lt hd)) hk1 hk (by omega) (by omega)) ?_
          rintro v U4 D4 hU ⟨⟨x4, rfl, h4⟩, rfl⟩
          rw [List.nil_append]
          try refine run_s ?_
          refine sl_call rfl rfl rfl rfl rfl rfl (fun _ => rqMul_ct (hx1.rep.up uc sb) (hx1.le s1 (by omega)) (h4.rep.up uc sb) (h4.le (sM j) (by omega))) ?_
          rintro v Uh5 D hU ⟨xh5, rfl, h5, rfl⟩
          repeat (first | refine run_O ?_ | refine w_box (fun _ => ?_) | refine w_al (fun _ => ?_))
          have s5 := s1.mul (sM j)
          rename_i b7
          refine st_seq_cut (fun E U' M' => ∃ xt : QV, xt.nrm U' [] (La.sgn j * (A 0 j * La.det i (La.minor A j))) ∧ E = [(7, .pointer (some ⟨b7, 0, none⟩)), (3, .pointer (some ⟨b3, 0, none⟩)), (4, .int .i64 (j : Int)), (0, .slice p1 (i + 1) c1), (2, .pointer (some ⟨b2, 0, none⟩))] ∧ ULe Uh5 U' ∧
              M' = (b7, .var xt.v, TR) :: (b3, .var xo.v, TR) :: (b2, .var zeroQV.v, TR) :: (D ++ M)) ?_ ?_
          · have et : (j : Int).tmod 2 = ((j % 2 : Nat) : Int) := by rw [Int.tmod_eq_emod_of_nonneg (by omega)]; omega
            try refine run_s ?_
            refine st_eq rfl (fun h9 => ?_) (fun h9 => ?_)
            · have ho2 : j % 2 = 1 := by omega
              try refine run_s ?_
              refine sl_call rfl rfl rfl rfl rfl rfl (fun _ => rqNeg_ct (h5.rep.up uc sb) (h5.le s5 (by omega))) ?_
              rintro v Uh6 D hU ⟨xh6, rfl, h6, rfl⟩
              repeat (first | refine run_O ?_ | refine w_box (fun _ => ?_) | refine w_al (fun _ => ?_))
              refine sk_cut (E' := [(7, .pointer (some ⟨b7, 0, none⟩)), (3, .pointer (some ⟨b3, 0, none⟩)), (4, .int .i64 (j : Int)), (0, .slice p1 (i + 1) c1), (2, .pointer (some ⟨b2, 0, none⟩))]) ⟨rfl, rfl, rfl, rfl, rfl, trivial⟩ ⟨xh6, ?_, rfl, uc, rfl⟩
              rw [sgn_odd, if_pos ho2, Rat.neg_mul, Rat.one_mul]; exact h6
            · have ho2 : ¬ j % 2 = 1 := by omega
              try refine run_s ?_
              refine sk_cut (E' := [(7, .pointer (some ⟨b7, 0, none⟩)), (3, .pointer (some ⟨b3, 0, none⟩)), (4, .int .i64 (j : Int)), (0, .slice p1 (i + 1) c1), (2, .pointer (some ⟨b2, 0, none⟩))]) ⟨rfl, rfl, rfl, rfl, rfl, trivial⟩ ⟨xh5, ?_, rfl, uc, rfl⟩
              rw [sgn_odd, if_neg ho2, Rat.one_mul]; exact h5
          · rintro E U6 M' ⟨xt, ht, rfl, hU6, rfl⟩
            try refine run_s ?_
            refine sl_call rfl rfl rfl rfl rfl rfl (fun _ => rqAdd_ct (ho.rep.up uc sb) (ho.le so (by omega)) (ht.rep.up uc sb) (ht.le (szq_sgn s5 j) (by omega))) ?_
            rintro v Uh8 D hU ⟨xh8, rfl, h8, rfl⟩
            repeat (first | refine run_S ?_ | refine w_box (fun _ => ?_) | refine w_al (fun _ => ?_))
            refine sk_anti (M' := (b3, .var xh8.v, TR) :: (b2, .var zeroQV.v, TR) :: M) (ULe.refl _) sbk ?_
            exact sk_again (E' := [(3, .pointer (some ⟨b3, 0, none⟩)), (4, .int .i64 ((j : Int) + 1)), (0, .slice p1 (i + 1) c1), (2, .pointer (some ⟨b2, 0, none⟩))]) (m := i + 1 - (j + 1)) ⟨rfl, rfl, rfl, rfl, trivial⟩ (by omega)
              ⟨j + 1, xh8, by omega, h8, rfl, uc, rfl, rfl⟩
    · have e : j = n + 1 := by omega
      subst e
      repeat (first | refine run_S ?_ | refine w_box (fun _ => ?_) | refine w_al (fun _ => ?_))
      exact sk_ret [] sym rfl (.cons (.cell 1 rfl rfl rfl) .nil) uc sb (.inl rfl) ⟨⟨xo, rfl, ho⟩, rfl⟩

end Go.Proofs.YtpigpikhjlmdoaaGreat
