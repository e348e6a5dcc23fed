/- The law of layer 13 on determinants by primes and Hadamard's bound. -/
import Derived.Test.YtpigpikhjlmdoaaGreatB192
import Derived.Test.YtpigpikhjlmdoaaGreatB194
import Derived.Test.YtpigpikhjlmdoaaGreatB165
import Derived.Test.YtpigpikhjlmdoaaGreatM15
import Derived.Test.YtpigpikhjlmdoaaGreatRf
namespace Go.Proofs.YtpigpikhjlmdoaaGreat
open Go.Hp
variable {G : World} {U U' : UH} {M M' : MH}

set_option maxRecDepth 100000 in
set_option maxHeartbeats 4000000 in
theorem ModmatrixDets_ct {va : Value} {r c : Int} {n : Nat} {f : Nat → Int} (ha : RawO Xz 2 U va r c n f) :
    Ct Tryz.prog 5 [va] G U M fun v _ _ => v = .bool true := by
  obtain ⟨ha1, ha2, ha3, _, rfl, p, cc, xs, rfl, hcc, rw1, el0⟩ := ha
  refine ct_of_st Tryz.func5 rfl rfl rfl rfl ?_
  repeat (first | refine run_S ?_ | refine w_box (fun _ => ?_) | refine w_al (fun _ => ?_))
  rename_i b1
  refine sl_call rfl rfl rfl rfl rfl rfl (fun _ => awake13_ct) ?_
  rintro v1 U1 D hU1 ⟨rfl, -, rfl⟩
  rw [List.nil_append]
  repeat (first | refine run_S ?_ | refine w_box (fun _ => ?_) | refine w_al (fun _ => ?_))
  refine sl_gdec rfl rfl (fun h => ?_) (fun hn36 => ?_)
  · repeat (first | refine run_S ?_ | refine w_box (fun _ => ?_) | refine w_al (fun _ => ?_))
    exact sk_ret [] sym rfl (.cons (.tmp rfl) .nil) uc sb (.inl rfl) rfl
  repeat (first | refine run_S ?_ | refine w_box (fun _ => ?_) | refine w_al (fun _ => ?_))
  refine sl_call rfl rfl rfl rfl rfl rfl (fun _ => z12Valid_ct (r := r) (c := c) (p := p) (cc := cc) ha3) ?_
  rintro v U' D hU ⟨rfl, rfl, rfl⟩
  repeat (first | refine run_S ?_ | refine w_box (fun _ => ?_) | refine w_al (fun _ => ?_))
  by_cases hV : Vld r c n
  · rw [decide_eq_true hV]
    repeat (first | refine run_S ?_ | refine w_box (fun _ => ?_) | refine w_al (fun _ => ?_))
    refine sl_gdec rfl rfl (fun h => ?_) (fun hr6 => ?_)
    · repeat (first | refine run_S ?_ | refine w_box (fun _ => ?_) | refine w_al (fun _ => ?_))
      exact sk_ret [] sym rfl (.cons (.tmp rfl) .nil) uc sb (.inl rfl) rfl
    repeat (first | refine run_S ?_ | refine w_box (fun _ => ?_) | refine w_al (fun _ => ?_))
    refine st_dec rfl (fun h => ?_) (fun hc6 => ?_)
    · repeat (first | refine run_S ?_ | refine w_box (fun _ => ?_) | refine w_al (fun _ => ?_))
      exact sk_ret [] sym rfl (.cons (.tmp rfl) .nil) uc sb (.inl rfl) rfl
    repeat (first | refine run_S ?_ | refine w_box (fun _ => ?_) | refine w_al (fun _ => ?_))
    try refine st_anti (M' := (b1, .var (.agg #[.int .i64 r, .int .i64 c, .slice p n cc]), 63) :: M) (ULe.refl _) sbk ?_
    refine st_loop (fun z E U' M' => ∃ (i : Nat), i ≤ n ∧ (∀ k x, k < i → xs[k]? = some x → Xw 2 U x (f k)) ∧ U1 = U' ∧ E = [(3, .int .i64 (i : Int)), (1, .pointer (some ⟨b1, 0, none⟩))] ∧ ULe U1 U' ∧ M' = (b1, .var (.agg #[.int .i64 r, .int .i64 c, .slice p n cc]), 63) :: M ∧ z = n - i) (n0 := n - 0) (E0 := [(3, .int .i64 ((0 : Nat) : Int)), (1, .pointer (some ⟨b1, 0, none⟩))]) ⟨rfl, rfl, trivial⟩ ⟨0, by omega, (fun k x h => absurd h (Nat.not_lt_zero k)), rfl, rfl, uc, rfl, rfl⟩ ?_
    rintro z E U2 M' ⟨i, hi, hall, rfl, rfl, hU2, rfl, rfl⟩
    try refine run_s ?_
    refine st_dec rfl (fun h => ?_) (fun h => ?_)
    · have hin : i < n := by omega
      obtain ⟨v1, hv1⟩ := rw1.at hin
      obtain ⟨x1, rfl, hx1⟩ := el0 _ _ hv1
      repeat (first | refine run_S ?_ | refine w_box (fun _ => ?_) | refine w_al (fun _ => ?_))
      refine w_addr (j := i) hin (rw1.get _ _ hv1).1 ?_
      repeat (first | refine run_S ?_ | refine w_box (fun _ => ?_) | refine w_al (fun _ => ?_))
      refine sl_y (yl_loadRc (j := 1) (u := .slice x1.p x1.n x1.c) sym rfl rfl (by rw [elt_add]) rfl rfl (rw1.up uc (List.nil_sublist _)) hv1 rfl) rfl rfl rfl rfl ?_
      repeat (first | refine run_S ?_ | refine w_box (fun _ => ?_) | refine w_al (fun _ => ?_))
      refine st_dec rfl (fun h1 => ?_) (fun h1 => ?_)
      · repeat (first | refine run_S ?_ | refine w_box (fun _ => ?_) | refine w_al (fun _ => ?_))
        exact sk_ret [] sym rfl (.cons (.tmp rfl) .nil) uc sb (.inl rfl) rfl
      · repeat (first | refine run_S ?_ | refine w_box (fun _ => ?_) | refine w_al (fun _ => ?_))
        exact sk_again (E' := [(3, .int .i64 ((i : Int) + 1)), (1, .pointer (some ⟨b1, 0, none⟩))]) (m := n - (i + 1)) ⟨rfl, rfl, trivial⟩ (by omega) ⟨i + 1, by omega, (fun k x hk hx => by
          rcases Nat.lt_or_eq_of_le (Nat.le_of_lt_succ hk) with h3 | h3
          · exact hall k x h3 hx
          · subst h3
            rw [hv1] at hx
            cases hx
            exact ⟨x1, rfl, hx1, by omega⟩), rfl, rfl, uc, rfl, rfl⟩
    obtain rfl : i = n := by omega
    have el : El (Xw 2) U xs f := fun k x hk => hall k x (rw1.lt hk) hk
    clear hall el0
    by_cases hrc : r = c
    · subst hrc
      obtain ⟨k1, k2, k3, k4, k5⟩ := id hV
      obtain ⟨m, rfl⟩ : ∃ R : Nat, r = (R : Int) := ⟨r.toNat, by omega⟩
      obtain rfl : i = m * m := by rw [← Int.natCast_mul] at k5; omega
      have hm6 : m ≤ 6 := by omega
      have hmm : m * m ≤ 6 * 6 := Nat.mul_le_mul hm6 hm6
      have hsz2 : ∀ i j, i < m → j < m → Sz (f (i * m + j)) 2 := fun i j hi hj => by
        obtain ⟨v1, hv1⟩ := rw1.at (ij_lt hi hj)
        obtain ⟨x1, rfl, hx1, hn1⟩ := el _ _ hv1
        exact hx1.sz hn1
      obtain ⟨hb1, hb2⟩ := had_bd hm6 hsz2
      obtain ⟨hd1, hd2⟩ := det_had (n := m) (f := f)
      have e13 : (4294967296 : Nat) ^ 13 = 4294967296 ^ 12 * 65536 * 65536 := by decide
      have sh : Sz (La.pz m (hrow m f)) 13 := by unfold Sz; rw [e13]; omega
      have sd : Sz (Lr.det m fun i j => f (i * m + j)) 13 := by unfold Sz; rw [e13]; omega
      repeat (first | refine run_S ?_ | refine w_box (fun _ => ?_) | refine w_al (fun _ => ?_))
      refine sl_call rfl rfl rfl rfl rfl rfl (fun _ => fHadamard_ct (rw1.up uc (List.nil_sublist _)) (el.up kept_xw uc) hcc hm6) ?_
      rintro v3 U3 D3 hU3 ⟨xh, rfl, hH, rfl⟩
      try rw [List.nil_append]
      repeat (first | refine run_S ?_ | refine w_box (fun _ => ?_) | refine w_al (fun _ => ?_))
      refine sl_call rfl rfl rfl rfl rfl rfl (fun _ => DetP_ct (rw1.up uc (List.nil_sublist _)) (el.up kept_xw uc) hcc hm6) ?_
      rintro v4 U4 D4 hU4 ⟨xd, rfl, hD, rfl⟩
      try rw [List.nil_append]
      repeat (first | refine run_S ?_ | refine w_box (fun _ => ?_) | refine w_al (fun _ => ?_))
      refine sl_call rfl rfl rfl rfl rfl rfl (fun _ => z12Valid_ct (r := (m : Int)) (c := (m : Int)) (p := p) (cc := cc) ha3) ?_
      rintro v U' D hU ⟨rfl, rfl, rfl⟩
      repeat (first | refine run_S ?_ | refine w_box (fun _ => ?_) | refine w_al (fun _ => ?_))
      rw [decide_eq_true hV]
      repeat (first | refine run_S ?_ | refine w_box (fun _ => ?_) | refine w_al (fun _ => ?_))
      refine st_ne rfl (fun h => absurd rfl h) (fun _ => ?_)
      repeat (first | refine run_S ?_ | refine w_box (fun _ => ?_) | refine w_al (fun _ => ?_))
      refine st_drawM [3, 4, 5, 13, 14, 19, 20, 25, 26, 27, 28] [0, 1, 2, 3, 4, 5, 6, 7, 8, 9, 10, 11, 12, 13, 14, 15, 16, 17, 18, 19, 20, 21, 22, 24, 23, 25, 26, 27, 28] sym (by kernel_rfl) ?_
      repeat (first | refine run_S ?_ | refine w_box (fun _ => ?_) | refine w_al (fun _ => ?_))
      refine sl_gdec rfl rfl (fun _ => ?_) (fun h => absurd rfl h)
      repeat (first | refine run_S ?_ | refine w_box (fun _ => ?_) | refine w_al (fun _ => ?_))
      refine sl_gdec rfl rfl (fun _ => ?_) (fun h => absurd rfl h)
      repeat (first | refine run_S ?_ | refine w_box (fun _ => ?_) | refine w_al (fun _ => ?_))
      refine sl_call rfl rfl rfl rfl rfl rfl (fun _ => z12Rows_ct (s := 2) (rw1.up uc (List.nil_sublist _)) (el.up kept_xw uc) (by decide) (by omega) (by omega)) ?_
      rintro v5 U5 D hU5 ⟨h5, rfl⟩
      rw [List.nil_append]
      refine sl_call rfl rfl rfl rfl rfl rfl (fun _ => z13Hadamard_ct (h5.up kept_vri uc (List.nil_sublist _)) hsz2 hm6) ?_
      rintro v6 U6 D hU6 ⟨x6, rfl, h6, rfl⟩
      rw [List.nil_append]
      refine sl_call rfl rfl rfl rfl rfl rfl (fun _ => rSame_cz (hH.up uc (List.nil_sublist _)) (h6.up uc (List.nil_sublist _))) ?_
      rintro v U' D hU ⟨rfl, rfl, rfl⟩
      repeat (first | refine run_S ?_ | refine w_box (fun _ => ?_) | refine w_al (fun _ => ?_))
      rw [decide_eq_true rfl]
      repeat (first | refine run_S ?_ | refine w_box (fun _ => ?_) | refine w_al (fun _ => ?_))
      refine sl_call rfl rfl rfl rfl rfl rfl (fun _ => z12Det_ct (rw1.up uc (List.nil_sublist _)) (el.up kept_xw uc) hm6) ?_
      rintro v7 U7 D hU7 ⟨x7, rfl, h7, rfl⟩
      rw [List.nil_append]
      refine sl_call rfl rfl rfl rfl rfl rfl (fun _ => rSame_cz (hD.up uc (List.nil_sublist _)) (h7.up uc (List.nil_sublist _))) ?_
      rintro v U' D hU ⟨rfl, rfl, rfl⟩
      repeat (first | refine run_S ?_ | refine w_box (fun _ => ?_) | refine w_al (fun _ => ?_))
      rw [decide_eq_true rfl]
      repeat (first | refine run_S ?_ | refine w_box (fun _ => ?_) | refine w_al (fun _ => ?_))
      refine sl_call rfl rfl rfl rfl rfl rfl (fun _ => (rAbs_ct (hD.rep.up uc (List.nil_sublist _)) (hD.le sd (by omega))).settle) ?_
      rintro v Uh8 D hU ⟨rfl, _, _, ⟨xh8, rfl, h8, -⟩, -, -, hs⟩
      replace h8 := h8.sett hs
      clear hs
      repeat (first | refine run_S ?_ | refine w_box (fun _ => ?_) | refine w_al (fun _ => ?_))
      refine sl_call rfl rfl rfl rfl rfl rfl (fun _ => rCmp_ct (h8.rep.up uc (List.nil_sublist _)) (h8.le (sz_le sd (by omega)) (by omega)) (hH.rep.up uc (List.nil_sublist _)) (hH.le sh (by omega))) ?_
      rintro v U' D hU ⟨rfl, rfl, rfl⟩
      repeat (first | refine run_S ?_ | refine w_box (fun _ => ?_) | refine w_al (fun _ => ?_))
      refine sk_ret [] sym rfl (.cons (.tmp rfl) .nil) uc sb (.inl rfl) ?_
      refine congrArg Value.bool (dec_true ?_)
      rcases Int.lt_or_eq_of_le (show (((Lr.det m fun i j => f (i * m + j)).natAbs : Nat) : Int) - La.pz m (hrow m f) ≤ 0 by omega) with h9 | h9
      · rw [Int.sign_eq_neg_one_of_neg h9]; decide
      · rw [h9]; decide
    · have hN : ¬ (Vld r c i ∧ r = c) := fun h => hrc h.2
      repeat (first | refine run_S ?_ | refine w_box (fun _ => ?_) | refine w_al (fun _ => ?_))
      refine sl_call rfl rfl rfl rfl rfl rfl (fun _ => fHadamard_no (r := r) (c := c) (p := p) (n := i) (cc := cc) ha3 hN) ?_
      rintro v3 U3 D hU3 ⟨rfl, -, rfl⟩
      rw [List.nil_append]
      repeat (first | refine run_S ?_ | refine w_box (fun _ => ?_) | refine w_al (fun _ => ?_))
      refine sl_call rfl rfl rfl rfl rfl rfl (fun _ => DetP_no (r := r) (c := c) (p := p) (n := i) (cc := cc) ha3 hN) ?_
      rintro v4 U4 D hU4 ⟨rfl, -, rfl⟩
      rw [List.nil_append]
      repeat (first | refine run_S ?_ | refine w_box (fun _ => ?_) | refine w_al (fun _ => ?_))
      refine sl_call rfl rfl rfl rfl rfl rfl (fun _ => z12Valid_ct (r := r) (c := c) (p := p) (cc := cc) ha3) ?_
      rintro v U' D hU ⟨rfl, rfl, rfl⟩
      repeat (first | refine run_S ?_ | refine w_box (fun _ => ?_) | refine w_al (fun _ => ?_))
      rw [decide_eq_true hV]
      repeat (first | refine run_S ?_ | refine w_box (fun _ => ?_) | refine w_al (fun _ => ?_))
      refine st_ne rfl (fun _ => ?_) (fun h => absurd h hrc)
      repeat (first | refine run_S ?_ | refine w_box (fun _ => ?_) | refine w_al (fun _ => ?_))
      refine sl_gdec rfl rfl (fun _ => ?_) (fun h => absurd rfl h)
      repeat (first | refine run_S ?_ | refine w_box (fun _ => ?_) | refine w_al (fun _ => ?_))
      refine sl_gdec rfl rfl (fun _ => ?_) (fun h => absurd rfl h)
      repeat (first | refine run_S ?_ | refine w_box (fun _ => ?_) | refine w_al (fun _ => ?_))
      refine sl_call rfl rfl rfl rfl rfl rfl (fun _ => rSign_ct (x := zeroIV) (zeroIV_nrm.rep.up (ULe.refl _) (List.nil_sublist _)) (by decide)) ?_
      rintro v U' D hU ⟨rfl, rfl, rfl⟩
      repeat (first | refine run_S ?_ | refine w_box (fun _ => ?_) | refine w_al (fun _ => ?_))
      refine sl_gdec rfl rfl (fun _ => ?_) (fun h => absurd rfl h)
      repeat (first | refine run_S ?_ | refine w_box (fun _ => ?_) | refine w_al (fun _ => ?_))
      refine sl_call rfl rfl rfl rfl rfl rfl (fun _ => rSign_ct (x := zeroIV) (zeroIV_nrm.rep.up (ULe.refl _) (List.nil_sublist _)) (by decide)) ?_
      rintro v U' D hU ⟨rfl, rfl, rfl⟩
      repeat (first | refine run_S ?_ | refine w_box (fun _ => ?_) | refine w_al (fun _ => ?_))
      refine sk_ret [] sym rfl (.cons (.tmp rfl) .nil) uc sb (.inl rfl) ?_
      exact congrArg Value.bool (dec_true rfl)
  · rw [decide_eq_false hV]
    repeat (first | refine run_S ?_ | refine w_box (fun _ => ?_) | refine w_al (fun _ => ?_))
    try refine st_anti (M' := (b1, .var (.agg #[.int .i64 r, .int .i64 c, .slice p n cc]), 63) :: M) (ULe.refl _) sbk ?_
    refine st_loop (fun z E U' M' => ∃ (i : Nat), i ≤ n ∧ (∀ k x, k < i → xs[k]? = some x → Xw 2 U x (f k)) ∧ U1 = U' ∧ E = [(3, .int .i64 (i : Int)), (1, .pointer (some ⟨b1, 0, none⟩))] ∧ ULe U1 U' ∧ M' = (b1, .var (.agg #[.int .i64 r, .int .i64 c, .slice p n cc]), 63) :: M ∧ z = n - i) (n0 := n - 0) (E0 := [(3, .int .i64 ((0 : Nat) : Int)), (1, .pointer (some ⟨b1, 0, none⟩))]) ⟨rfl, rfl, trivial⟩ ⟨0, by omega, (fun k x h => absurd h (Nat.not_lt_zero k)), rfl, rfl, uc, rfl, rfl⟩ ?_
    rintro z E U2 M' ⟨i, hi, hall, rfl, rfl, hU2, rfl, rfl⟩
    try refine run_s ?_
    refine st_dec rfl (fun h => ?_) (fun h => ?_)
    · have hin : i < n := by omega
      obtain ⟨v1, hv1⟩ := rw1.at hin
      obtain ⟨x1, rfl, hx1⟩ := el0 _ _ hv1
      repeat (first | refine run_S ?_ | refine w_box (fun _ => ?_) | refine w_al (fun _ => ?_))
      refine w_addr (j := i) hin (rw1.get _ _ hv1).1 ?_
      repeat (first | refine run_S ?_ | refine w_box (fun _ => ?_) | refine w_al (fun _ => ?_))
      refine sl_y (yl_loadRc (j := 1) (u := .slice x1.p x1.n x1.c) sym rfl rfl (by rw [elt_add]) rfl rfl (rw1.up uc (List.nil_sublist _)) hv1 rfl) rfl rfl rfl rfl ?_
      repeat (first | refine run_S ?_ | refine w_box (fun _ => ?_) | refine w_al (fun _ => ?_))
      refine st_dec rfl (fun h1 => ?_) (fun h1 => ?_)
      · repeat (first | refine run_S ?_ | refine w_box (fun _ => ?_) | refine w_al (fun _ => ?_))
        exact sk_ret [] sym rfl (.cons (.tmp rfl) .nil) uc sb (.inl rfl) rfl
      · repeat (first | refine run_S ?_ | refine w_box (fun _ => ?_) | refine w_al (fun _ => ?_))
        exact sk_again (E' := [(3, .int .i64 ((i : Int) + 1)), (1, .pointer (some ⟨b1, 0, none⟩))]) (m := n - (i + 1)) ⟨rfl, rfl, trivial⟩ (by omega) ⟨i + 1, by omega, (fun k x hk hx => by
          rcases Nat.lt_or_eq_of_le (Nat.le_of_lt_succ hk) with h3 | h3
          · exact hall k x h3 hx
          · subst h3
            rw [hv1] at hx
            cases hx
            exact ⟨x1, rfl, hx1, by omega⟩), rfl, rfl, uc, rfl, rfl⟩
    obtain rfl : i = n := by omega
    have el : El (Xw 2) U xs f := fun k x hk => hall k x (rw1.lt hk) hk
    clear hall el0
    have hN : ¬ (Vld r c i ∧ r = c) := fun h => hV h.1
    repeat (first | refine run_S ?_ | refine w_box (fun _ => ?_) | refine w_al (fun _ => ?_))
    refine sl_call rfl rfl rfl rfl rfl rfl (fun _ => fHadamard_no (r := r) (c := c) (p := p) (n := i) (cc := cc) ha3 hN) ?_
    rintro v3 U3 D hU3 ⟨rfl, -, rfl⟩
    rw [List.nil_append]
    repeat (first | refine run_S ?_ | refine w_box (fun _ => ?_) | refine w_al (fun _ => ?_))
    refine sl_call rfl rfl rfl rfl rfl rfl (fun _ => DetP_no (r := r) (c := c) (p := p) (n := i) (cc := cc) ha3 hN) ?_
    rintro v4 U4 D hU4 ⟨rfl, -, rfl⟩
    rw [List.nil_append]
    repeat (first | refine run_S ?_ | refine w_box (fun _ => ?_) | refine w_al (fun _ => ?_))
    refine sl_call rfl rfl rfl rfl rfl rfl (fun _ => z12Valid_ct (r := r) (c := c) (p := p) (cc := cc) ha3) ?_
    rintro v U' D hU ⟨rfl, rfl, rfl⟩
    repeat (first | refine run_S ?_ | refine w_box (fun _ => ?_) | refine w_al (fun _ => ?_))
    rw [decide_eq_false hV]
    repeat (first | refine run_S ?_ | refine w_box (fun _ => ?_) | refine w_al (fun _ => ?_))
    refine sl_gdec rfl rfl (fun _ => ?_) (fun h => absurd rfl h)
    repeat (first | refine run_S ?_ | refine w_box (fun _ => ?_) | refine w_al (fun _ => ?_))
    refine sl_gdec rfl rfl (fun _ => ?_) (fun h => absurd rfl h)
    repeat (first | refine run_S ?_ | refine w_box (fun _ => ?_) | refine w_al (fun _ => ?_))
    refine sl_call rfl rfl rfl rfl rfl rfl (fun _ => rSign_ct (x := zeroIV) (zeroIV_nrm.rep.up (ULe.refl _) (List.nil_sublist _)) (by decide)) ?_
    rintro v U' D hU ⟨rfl, rfl, rfl⟩
    repeat (first | refine run_S ?_ | refine w_box (fun _ => ?_) | refine w_al (fun _ => ?_))
    refine sl_gdec rfl rfl (fun _ => ?_) (fun h => absurd rfl h)
    repeat (first | refine run_S ?_ | refine w_box (fun _ => ?_) | refine w_al (fun _ => ?_))
    refine sl_call rfl rfl rfl rfl rfl rfl (fun _ => rSign_ct (x := zeroIV) (zeroIV_nrm.rep.up (ULe.refl _) (List.nil_sublist _)) (by decide)) ?_
    rintro v U' D hU ⟨rfl, rfl, rfl⟩
    repeat (first | refine run_S ?_ | refine w_box (fun _ => ?_) | refine w_al (fun _ => ?_))
    refine sk_ret [] sym rfl (.cons (.tmp rfl) .nil) uc sb (.inl rfl) ?_
    exact congrArg Value.bool (dec_true rfl)
end Go.Proofs.YtpigpikhjlmdoaaGreat
