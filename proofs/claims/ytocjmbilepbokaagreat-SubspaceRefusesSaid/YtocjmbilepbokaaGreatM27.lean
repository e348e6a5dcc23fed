/- Texts of this seat's own, merged: each begins with its own remark. -/
import Derived.Test.YtocjmbilepbokaaGreatM37
import Derived.Test.YtocjmbilepbokaaGreatHk
import Derived.Test.YtocjmbilepbokaaGreatM23
import Derived.Test.YtocjmbilepbokaaGreatM26
/- Walks of matrix: Transpose, Apply, Trace. -/
namespace Go.Proofs.YtocjmbilepbokaaGreat
open Go.Hp
variable {G : World} {U U' : UH} {M M' : MH}

theorem mload_ct {r c b : Nat} {vm : Value} {A : Nat → Nat → Rat} (hm : Vm (Wq b) r c U vm A) (hb : b ≤ 10000000000) (hr : r ≤ 100000) (hc : c ≤ 100000) (hrc : r * c ≤ 100000000) :
    Ct Tryz.prog 116 [vm] G U M fun v U' D => Lg r c U' [] v A ∧ D = [] :=
  (mload_co hm hb hr hc hrc).settle.mono fun _ _ _ _ ⟨h1, _, _, ⟨h2, _⟩, _, h7, h8⟩ => ⟨Lg.of_s (h2.sett h7 h8), h1⟩

theorem mTranspose_co {r c b : Nat} {va : Value} {A : Nat → Nat → Rat} (ha : Vm (Wq b) r c U va A) (hb : b ≤ 10000000000) (hr : r ≤ 1000) (hc : c ≤ 1000) :
    Ct Tryz.prog 95 [va] G U M fun v U' D => ∃ vC, v = .tuple #[vC, .int .i64 0] ∧ Vmo c r U' D vC (La.tr A) ∧ ULe U U' := by
  have hrc : r * c ≤ 1000 * 1000 := Nat.mul_le_mul hr hc
  have hcr : c * r ≤ 1000 * 1000 := Nat.mul_le_mul hc hr
  have ha2 := ha
  obtain ⟨_, rfl, pa, cca, as1, rfl, -⟩ := ha
  refine ct_of_st Tryz.func95 rfl rfl rfl rfl ?_
  repeat (first | refine run_S ?_ | refine w_box (fun _ => ?_) | refine w_al (fun _ => ?_))
  rename_i b1 b2
  refine sl_call rfl rfl rfl rfl rfl rfl (fun _ => mValid_ct (r := (r : Int)) (c := (c : Int)) (n := r * c) (p := pa) (cc := cca) (by omega)) ?_
  rintro v U' D hU ⟨rfl, rfl, rfl⟩
  repeat (first | refine run_S ?_ | refine w_box (fun _ => ?_) | refine w_al (fun _ => ?_))
  rw [decide_eq_true (vld_of (by omega) (by omega))]
  repeat (first | refine run_S ?_ | refine w_box (fun _ => ?_) | refine w_al (fun _ => ?_))
  refine sl_call rfl rfl rfl rfl rfl rfl (fun _ => mblank_co (r := c) (c := r) (by omega) (by omega)) ?_
  rintro v1 U1 D1 hU1 ⟨⟨Do, F, pg, cg, svs, rfl, rfl, hro, hg⟩, -⟩
  have hsl := hro.len.1
  refine sl_perm (M' := (b2, .var (.agg #[.int .i64 0, .int .i64 0, .slice none 0 0]), TM) :: (b1, .var (.agg #[.int .i64 (r : Int), .int .i64 (c : Int), .slice pa (r * c) cca]), TM) :: (Do ++ (F.flatten ++ M))) ?_ pm
  try refine run_s ?_
  refine sl_call rfl rfl rfl rfl rfl rfl (fun _ => mload_ct (kept_m kept_w _ _ _ _ uc ha2) (by omega) (by omega) (by omega) (by omega)) ?_
  rintro v2 U2 D2 hU2 ⟨hl, rfl⟩
  rw [List.nil_append]
  obtain ⟨pl, cl, ls, rfl, hcl, rl, el⟩ := hl
  try refine run_s ?_
  refine st_loop (fun z E U' M' => ∃ (i : Nat) (F : List MH), i ≤ r ∧ Gs rO r U' svs F (fun a k => if k < i then A k a else 0) ∧ E = [(21, .int .i64 (i : Int)), (20, .int .i64 (r : Int)), (19, .slice pl r cl), (4, .slice pg c cg), (1, .pointer (some ⟨b1, 0, none⟩)), (2, .pointer (some ⟨b2, 0, none⟩))] ∧ ULe U2 U' ∧
      M' = (b2, .var (.agg #[.int .i64 0, .int .i64 0, .slice none 0 0]), TM) :: (b1, .var (.agg #[.int .i64 (r : Int), .int .i64 (c : Int), .slice pa (r * c) cca]), TM) :: (Do ++ (F.flatten ++ M)) ∧ z = r - i) (n0 := r)
    (E0 := [(21, .int .i64 ((0 : Nat) : Int)), (20, .int .i64 (r : Int)), (19, .slice pl r cl), (4, .slice pg c cg), (1, .pointer (some ⟨b1, 0, none⟩)), (2, .pointer (some ⟨b2, 0, none⟩))]) ⟨rfl, rfl, rfl, rfl, rfl, rfl, trivial⟩ ⟨0, F, by omega, by simpa using hg.up (U' := U2) uc, rfl, uc, rfl, rfl⟩ ?_
  clear hg
  rintro z E U3 M' ⟨i, F, hi, hg, rfl, hU3, rfl, rfl⟩
  try refine run_s ?_
  refine st_dec rfl (fun h => ?_) (fun h => ?_)
  · have hir : i < r := by omega
    obtain ⟨v1, hv1⟩ := rl.at hir
    obtain ⟨q1, d1, us, rfl, hd1, ru, eu⟩ := el _ _ hv1
    try refine run_s ?_
    refine sl_y (yl_index sym rfl rfl rfl rfl rfl rfl ((rl.up uc sb).lt hv1) ((rl.up uc sb).get _ _ hv1).1) rfl rfl rfl rfl ?_; refine sl_y (yl_loadR1 sym rfl rfl rfl rfl (rl.up uc sb) hv1 rfl) rfl rfl rfl rfl ?_
    try refine run_s ?_
    refine st_loop (fun z E U' M' => ∃ (j : Nat) (F : List MH), j ≤ c ∧ Gs rO r U' svs F (fun a k => if k < i ∨ (k = i ∧ a < j) then A k a else 0) ∧ E = [(28, .int .i64 (j : Int)), (27, .int .i64 (c : Int)), (26, .slice q1 c d1), (5, .int .i64 (i : Int)), (21, .int .i64 (i : Int)), (20, .int .i64 (r : Int)), (19, .slice pl r cl), (4, .slice pg c cg), (1, .pointer (some ⟨b1, 0, none⟩)), (2, .pointer (some ⟨b2, 0, none⟩))] ∧ ULe U3 U' ∧
        M' = (b2, .var (.agg #[.int .i64 0, .int .i64 0, .slice none 0 0]), TM) :: (b1, .var (.agg #[.int .i64 (r : Int), .int .i64 (c : Int), .slice pa (r * c) cca]), TM) :: (Do ++ (F.flatten ++ M)) ∧ z = c - j) (n0 := c)
      (E0 := [(28, .int .i64 ((0 : Nat) : Int)), (27, .int .i64 (c : Int)), (26, .slice q1 c d1), (5, .int .i64 (i : Int)), (21, .int .i64 (i : Int)), (20, .int .i64 (r : Int)), (19, .slice pl r cl), (4, .slice pg c cg), (1, .pointer (some ⟨b1, 0, none⟩)), (2, .pointer (some ⟨b2, 0, none⟩))]) ⟨rfl, rfl, rfl, rfl, rfl, rfl, rfl, rfl, rfl, rfl, trivial⟩ ⟨0, F, by omega, by simpa using hg, rfl, uc, rfl, rfl⟩ ?_
    clear hg
    rintro z E U4 M' ⟨j, F, hj, hg, rfl, hU4, rfl, rfl⟩
    try refine run_s ?_
    refine st_dec rfl (fun h2 => ?_) (fun h2 => ?_)
    · have hjc : j < c := by omega
      obtain ⟨v2, hv2⟩ := ru.at hjc
      obtain ⟨x1, rfl, hx1⟩ := eu _ _ hv2
      obtain ⟨q, c', vs, Dj, hvj, hFj, hcc, hR, hel, hjF, hput⟩ := hg.put (i := j) (by omega)
      try refine run_s ?_
      refine sl_y (yl_index sym rfl rfl rfl rfl rfl rfl ((ru.up uc sb).lt hv2) ((ru.up uc sb).get _ _ hv2).1) rfl rfl rfl rfl ?_; refine sl_y (yl_loadRs sym rfl rfl rfl rfl rfl (ru.up uc sb) hv2) rfl rfl rfl rfl ?_
      repeat (first | refine run_S ?_ | refine w_box (fun _ => ?_) | refine w_al (fun _ => ?_))
      rename_i b8
      refine st_drawM [6, 7] [0, 1, 2, 3, 4, 5, 6, 7] sym (by kernel_rfl) ?_
      try refine run_s ?_
      have rA := hro.at (U := U4) (M := (b8, .var x1.v, TR) :: (b2, .var (.agg #[.int .i64 0, .int .i64 0, .slice none 0 0]), TM) :: (b1, .var (.agg #[.int .i64 (r : Int), .int .i64 (c : Int), .slice pa (r * c) cca]), TM) :: (Do ++ (F.flatten ++ M))) sb
      refine sl_y (yl_index sym rfl rfl rfl rfl rfl rfl (rA.lt hvj) (rA.get _ _ hvj).1) rfl rfl rfl rfl ?_; refine sl_y (yl_loadR1 sym rfl rfl rfl rfl rA hvj rfl) rfl rfl rfl rfl ?_
      try refine run_s ?_
      refine w_addr (j := i) hir (hR.some (by omega)) ?_
      refine w_storeR (v := x1.v) (X := (b8, .var x1.v, TR) :: (b2, .var (.agg #[.int .i64 0, .int .i64 0, .slice none 0 0]), TM) :: (b1, .var (.agg #[.int .i64 (r : Int), .int .i64 (c : Int), .slice pa (r * c) cca]), TM) :: (Do ++ (((F.take j).flatten ++ (F.drop (j + 1)).flatten) ++ M))) hR (pick_perm (B := (b8, .var x1.v, TR) :: (b2, .var (.agg #[.int .i64 0, .int .i64 0, .slice none 0 0]), TM) :: (b1, .var (.agg #[.int .i64 (r : Int), .int .i64 (c : Int), .slice pa (r * c) cca]), TM) :: Do) (pickF hFj)) hir (fun D4 hr4 => ?_)
      refine sl_perm ?_ (pick_perm (B := (b8, .var x1.v, TR) :: (b2, .var (.agg #[.int .i64 0, .int .i64 0, .slice none 0 0]), TM) :: (b1, .var (.agg #[.int .i64 (r : Int), .int .i64 (c : Int), .slice pa (r * c) cca]), TM) :: Do) (putF hjF)).symm
      refine sl_anti (M' := (b2, .var (.agg #[.int .i64 0, .int .i64 0, .slice none 0 0]), TM) :: (b1, .var (.agg #[.int .i64 (r : Int), .int .i64 (c : Int), .slice pa (r * c) cca]), TM) :: (Do ++ ((F.set j D4).flatten ++ M))) ?_ (List.sublist_cons_self ..)
      try refine run_s ?_
      exact sk_again (E' := [(28, .int .i64 ((j : Int) + 1)), (27, .int .i64 (c : Int)), (26, .slice q1 c d1), (5, .int .i64 (i : Int)), (21, .int .i64 (i : Int)), (20, .int .i64 (r : Int)), (19, .slice pl r cl), (4, .slice pg c cg), (1, .pointer (some ⟨b1, 0, none⟩)), (2, .pointer (some ⟨b2, 0, none⟩))]) (m := c - (j + 1)) ⟨rfl, rfl, rfl, rfl, rfl, rfl, rfl, rfl, rfl, rfl, trivial⟩ (by omega)
        ⟨j + 1, F.set j D4, by omega, hput U4 D4 _ _ (ULe.refl _) hr4 (set_ok (fun k x hk hne => by
          have : Vq U4 x (if k < i ∨ (k = i ∧ j < j) then A k j else 0) := hel k x hk
          by_cases e : k < i
          · rw [if_pos (.inl e)] at this; rw [if_pos (.inl e)]; exact this
          · rw [if_neg (by omega)] at this; rw [if_neg (by omega)]; exact this) (by
          rw [if_pos (by omega)]
          exact ⟨x1, rfl, hx1.up uc sb⟩)) (fun k hk => by
          funext a
          by_cases e : a < i ∨ (a = i ∧ k < j)
          · rw [if_pos e, if_pos (by omega)]
          · rw [if_neg e, if_neg (by omega)]), rfl, uc, rfl, rfl⟩
    · have e : j = c := by omega
      subst e
      try refine run_s ?_
      exact sk_again (E' := [(21, .int .i64 ((i : Int) + 1)), (20, .int .i64 (r : Int)), (19, .slice pl r cl), (4, .slice pg j cg), (1, .pointer (some ⟨b1, 0, none⟩)), (2, .pointer (some ⟨b2, 0, none⟩))]) (m := r - (i + 1)) ⟨rfl, rfl, rfl, rfl, rfl, rfl, trivial⟩ (by omega)
        ⟨i + 1, F, by omega, hg.congr (n := j) hsl (fun _ _ _ _ h => h.len.1) (fun a k ha _ => by
          by_cases e : k < i + 1
          · rw [if_pos e, if_pos (by omega)]
          · rw [if_neg e, if_neg (by omega)]), rfl, uc, rfl, rfl⟩
  · have e : i = r := by omega
    subst e
    repeat (first | refine run_S ?_ | refine w_box (fun _ => ?_) | refine w_al (fun _ => ?_))
    have hgl := Gs.lg (U := U3) (M := (b2, .var (.agg #[.int .i64 0, .int .i64 0, .slice none 0 0]), TM) :: (b1, .var (.agg #[.int .i64 (i : Int), .int .i64 (c : Int), .slice pa (i * c) cca]), TM) :: (Do ++ (F.flatten ++ M))) hro hg.w sb
    refine sl_call rfl rfl rfl rfl rfl rfl (fun _ => mstore_ct (hgl.up uc sb) (by omega) (by omega) (by omega)) ?_
    rintro v6 U6 D6 hU6 ⟨⟨_, rfl, p6, c6, vs6, rfl, h6, e6⟩, -⟩
    refine sl_perm ?_ (perm2 (D := D6))
    repeat (first | refine run_S ?_ | refine w_box (fun _ => ?_) | refine w_al (fun _ => ?_))
    exact sk_ret D6 sym rfl (.cons (.cell 0 rfl rfl rfl) (.cons (.tmp rfl) .nil)) uc sb (.inl rfl) ⟨_, rfl, ⟨_, rfl, p6, c6, vs6, rfl, h6, e6.congr h6.len.1 fun k hk => by
      have hmod : k % i < i := Nat.mod_lt _ (by
        rcases Nat.eq_zero_or_pos i with h0 | h0
        · subst h0; simp at hk
        · exact h0)
      show (if k % i < i then A (k % i) (k / i) else 0) = A (k % i) (k / i)
      rw [if_pos hmod]⟩, uc⟩

end Go.Proofs.YtocjmbilepbokaaGreat

/- Walks of reference 09: Add, Trace. -/
namespace Go.Proofs.YtocjmbilepbokaaGreat
open Go.Hp
variable {G : World} {U U' : UH} {M M' : MH}

end Go.Proofs.YtocjmbilepbokaaGreat

/- Walks of matrix: sums, differences, multiples. -/
namespace Go.Proofs.YtocjmbilepbokaaGreat
open Go.Hp
variable {G : World} {U U' : UH} {M M' : MH}

end Go.Proofs.YtocjmbilepbokaaGreat

/- The law of layer 9 on operations. -/
namespace Go.Proofs.YtocjmbilepbokaaGreat
open Go.Hp
variable {G : World} {U U' : UH} {M M' : MH}

end Go.Proofs.YtocjmbilepbokaaGreat
