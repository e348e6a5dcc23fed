/- Walks of the reference of layer 13: the search for a fraction. -/
import Derived.Test.YtpigpikhjlmdoaaB162
import Derived.Test.YtpigpikhjlmdoaaB155
import Derived.Test.YtpigpikhjlmdoaaM7
namespace Go.Proofs.Ytpigpikhjlmdoaa
open Go.Hp
variable {G : World} {U U' : UH} {M : MH}

/-- The residue that the search looks at. -/
def cen (w m : Int) : Int := if w % m > m / 2 then w % m - m else w % m
theorem cen_dvd (w m : Int) : m ∣ cen w m - w := by
  have h1 := Int.mul_ediv_add_emod w m
  unfold cen
  split
  · exact ⟨-(w / m) - 1, by rw [Int.mul_sub, Int.mul_neg, Int.mul_one]; omega⟩
  · exact ⟨-(w / m), by rw [Int.mul_neg]; omega⟩
theorem cen_uniq {w m n most : Int} (hm : 0 < m) (h0 : 0 ≤ most) (hmost : 2 * most < m) (h1 : -most ≤ n) (h2 : n ≤ most) (hc : m ∣ n - w) : cen w m = n := by
  have h3 := Int.emod_nonneg w (show m ≠ 0 by omega)
  have h4 := Int.emod_lt_of_pos w hm
  have h5 : m ∣ cen w m - n := by
    have := Int.dvd_sub (cen_dvd w m) hc
    rwa [show cen w m - w - (n - w) = cen w m - n by omega] at this
  obtain ⟨k, hk⟩ := h5
  have hb : -m < cen w m - n ∧ cen w m - n < m := by
    unfold cen
    split <;> omega
  have hk0 : k = 0 := by
    rcases Int.lt_trichotomy k 0 with h | h | h
    · have := Int.mul_le_mul_of_nonneg_left (show k ≤ -1 by omega) (Int.le_of_lt hm)
      omega
    · exact h
    · have := Int.mul_le_mul_of_nonneg_left (show 1 ≤ k by omega) (Int.le_of_lt hm)
      omega
  rw [hk0, Int.mul_zero] at hk
  omega

theorem z13Recon_ct {x : IV} {a : Int} {m : Nat} (hx : x.rep U [] a) (hn : x.n ≤ 900) (hm : 2 ≤ m) (hm2 : m ≤ 100000) :
    Ct Try.prog 10 [x.v, .int .i64 (m : Int)] G U M fun v U' D => ∃ (r : QV) (b : Bool), v = .tuple #[r.v, .bool b] ∧ D = [] ∧ ∃ most : Nat, most * most ≤ (((m : Int) - 1) / 2).natAbs ∧ (((m : Int) - 1) / 2).natAbs < (most + 1) * (most + 1) ∧
      ((b = false ∧ r = zeroQV ∧ ∀ n' d' : Int, 1 ≤ d' → d' ≤ most → -(most : Int) ≤ n' → n' ≤ most → (m : Int) ∣ n' - d' * a → Int.gcd d' m ≠ 1) ∨ (b = true ∧ ∃ n d : Int, 1 ≤ d ∧ d ≤ most ∧ -(most : Int) ≤ n ∧ n ≤ most ∧ Int.gcd d m = 1 ∧ (m : Int) ∣ n - d * a ∧ r.nrm U' [] (Rat.divInt n d))) := by
  refine ct_of_st Try.func10 rfl rfl rfl rfl ?_
  repeat (first | refine run_S ?_ | refine w_box (fun _ => ?_) | refine w_al (fun _ => ?_))
  rename_i b2 b4
  have smz : Sz (m : Int) 1 := by unfold Sz; omega
  refine sl_call rfl rfl rfl rfl rfl rfl (fun _ => (rOf_ct (z := (m : Int)) (by omega) (by omega)).settle) ?_
  rintro v Uh1 D hU ⟨rfl, _, _, ⟨xh1, rfl, h1, -⟩, -, -, hs⟩
  replace h1 := h1.sett hs
  clear hs
  repeat (first | refine run_S ?_ | refine w_box (fun _ => ?_) | refine w_al (fun _ => ?_))
  refine sl_call rfl rfl rfl rfl rfl rfl (fun _ => z13Limit_ct (h1.rep.up uc (List.Sublist.refl _)) (h1.le smz (by omega)) (by omega)) ?_
  rintro v2 U2 D2 hU2 ⟨xl, most, rfl, h2, hR1, hR2, rfl⟩
  rw [List.nil_append]
  have hml : most * 2 < m := by
    have := Nat.le_mul_self most
    rcases Nat.lt_or_ge most 2 with h | h
    · rcases (show most = 0 ∨ most = 1 by omega) with e | e <;> subst e <;> omega
    · have := Nat.mul_le_mul_right most h
      omega
  repeat (first | refine run_S ?_ | refine w_box (fun _ => ?_) | refine w_al (fun _ => ?_))
  refine sl_call rfl rfl rfl rfl rfl rfl (fun _ => rSmall_ct (h2.rep.up uc sb) (h2.le (k := 1) (by unfold Sz; omega) (by omega))) ?_
  rintro v U' D hU ⟨rfl, rfl, rfl⟩
  repeat (first | refine run_S ?_ | refine w_box (fun _ => ?_) | refine w_al (fun _ => ?_))
  rw [(sm_in (z := (most : Int)) (by omega)).1, (sm_in (z := (most : Int)) (by omega)).2]
  repeat (first | refine run_S ?_ | refine w_box (fun _ => ?_) | refine w_al (fun _ => ?_))
  refine st_drawM [9, 10] [0, 1, 2, 3, 4, 5, 6, 7, 8, 9, 10] sym (by kernel_rfl) ?_
  repeat (first | refine run_S ?_ | refine w_box (fun _ => ?_) | refine w_al (fun _ => ?_))
  refine sl_call rfl rfl rfl rfl rfl rfl (fun _ => (rOf_ct (z := (m : Int)) (by omega) (by omega)).settle) ?_
  rintro v Uh3 D hU ⟨rfl, _, _, ⟨xh3, rfl, h3, -⟩, -, -, hs⟩
  replace h3 := h3.sett hs
  clear hs
  repeat (first | refine run_S ?_ | refine w_box (fun _ => ?_) | refine w_al (fun _ => ?_))
  refine sl_call rfl rfl rfl rfl rfl rfl (fun _ => rEuclid_st (hx.up uc sb) (by omega) (h3.rep.up uc sb) (h3.le smz (by omega)) (by omega)) ?_
  rintro v4 U4 D4 hU4 ⟨xq4, xr4, rfl, -, h4, rfl⟩
  try rw [List.nil_append]
  repeat (first | refine run_S ?_ | refine w_box (fun _ => ?_) | refine w_al (fun _ => ?_))
  obtain ⟨X, hX⟩ : ∃ X : Nat, a % (m : Int) = (X : Int) := ⟨(a % (m : Int)).toNat, by have := Int.emod_nonneg a (show (m : Int) ≠ 0 by omega); omega⟩
  have hXm : X < m := by have := Int.emod_lt_of_pos a (show 0 < (m : Int) by omega); omega
  rw [hX] at h4
  refine sl_call rfl rfl rfl rfl rfl rfl (fun _ => rSmall_ct (h4.rep.up uc sb) (h4.le (k := 1) (by unfold Sz; omega) (by omega))) ?_
  rintro v U' D hU ⟨rfl, rfl, rfl⟩
  repeat (first | refine run_S ?_ | refine w_box (fun _ => ?_) | refine w_al (fun _ => ?_))
  rw [(sm_in (z := (X : Int)) (by omega)).1, (sm_in (z := (X : Int)) (by omega)).2]
  have hXa : ∀ d n : Int, (m : Int) ∣ n - d * a ↔ (m : Int) ∣ n - (X : Int) * d := fun d n => by
    have e1 := Int.mul_ediv_add_emod a (m : Int)
    have e2 : n - d * a = (n - (X : Int) * d) - (m : Int) * (d * (a / m)) := by
      rw [hX] at e1
      conv => lhs; rw [← e1]
      rw [Int.mul_add, Int.mul_comm (X : Int), Int.mul_left_comm]
      omega
    rw [e2]
    exact ⟨fun h => by have := Int.dvd_add h (Int.dvd_mul_right (m : Int) (d * (a / m))); rwa [Int.sub_add_cancel] at this, fun h => Int.dvd_sub h (Int.dvd_mul_right ..)⟩
  try refine run_s ?_
  try refine st_anti (M' := (b4, .var zeroQV.v, 27) :: M) (ULe.refl _) sbk ?_
  refine st_loop (fun z E U' M' => ∃ (d : Nat), 1 ≤ d ∧ d ≤ most + 1 ∧ (∀ n' d' : Int, 1 ≤ d' → d' < d → -(most : Int) ≤ n' → n' ≤ most → (m : Int) ∣ n' - d' * a → Int.gcd d' m ≠ 1) ∧ E = [(12, .int .i64 (d : Int)), (10, .int .i64 (X : Int)), (6, .int .i64 (most : Int)), (1, .int .i64 (m : Int)), (4, .pointer (some ⟨b4, 0, none⟩)), (5, .bool false)] ∧ ULe U4 U' ∧ M' = (b4, .var zeroQV.v, 27) :: M ∧ z = most + 1 - d) (n0 := most + 1 - 1) (E0 := [(12, .int .i64 ((1 : Nat) : Int)), (10, .int .i64 (X : Int)), (6, .int .i64 (most : Int)), (1, .int .i64 (m : Int)), (4, .pointer (some ⟨b4, 0, none⟩)), (5, .bool false)]) ⟨rfl, rfl, rfl, rfl, rfl, rfl, trivial⟩ ⟨1, Nat.le_refl 1, by omega, (fun n' d' k1 k2 => absurd k1 (by omega)), rfl, uc, rfl, rfl⟩ ?_
  rintro z E U5 M' ⟨d, hd1, hd2, hno, rfl, hU5, rfl, rfl⟩
  try refine run_s ?_
  refine st_dec rfl (fun h => ?_) (fun h => ?_)
  · have hdm : d ≤ most := by omega
    have hXd : X * d ≤ 100000 * 100000 := Nat.mul_le_mul (by omega) (by omega)
    have hXd2 : (X : Int) * (d : Int) = ((X * d : Nat) : Int) := (Int.natCast_mul X d).symm
    have hb0 : 0 ≤ (X : Int) * (d : Int) ∧ (X : Int) * (d : Int) ≤ 10000000000 := by omega
    have hml2 : X * d % m < m := Nat.mod_lt _ (by omega)
    have e4 : (((X * d % m : Nat)) : Int) = ((X : Int) * (d : Int)) % (m : Int) := by rw [hXd2, Int.natCast_emod]
    have e5 : IntKind.i64.wrap ((m : Int).tdiv 2) = (m : Int) / 2 := by rw [Int.tdiv_eq_ediv_of_nonneg (by omega)]; exact IntWalk.i64_in _ (by omega)
    have e6 : IntKind.i64.wrap (0 - (most : Int)) = -(most : Int) := by rw [IntWalk.i64_in _ (by omega)]; omega
    try refine run_s ?_
    refine sl_y (yl_remN (m := X * d) (n := m) rfl rfl rfl hXd2 rfl (by simp only [kmax]; omega) (by omega) rfl) rfl rfl rfl rfl ?_
    repeat (first | refine run_O ?_ | refine w_box (fun _ => ?_) | refine w_al (fun _ => ?_))
    refine st_seq_cut (fun E U' M' => True ∧ E = [(13, .int .i64 (cen ((X : Int) * (d : Int)) (m : Int))), (12, .int .i64 (d : Int)), (10, .int .i64 (X : Int)), (6, .int .i64 (most : Int)), (1, .int .i64 (m : Int)), (4, .pointer (some ⟨b4, 0, none⟩)), (5, .bool false)] ∧ ULe U5 U' ∧ M' = (b4, .var zeroQV.v, 27) :: M) ?_ ?_
    · try refine run_s ?_
      refine st_dec rfl (fun h6 => ?_) (fun h6 => ?_)
      · rw [e5] at h6
        try refine run_s ?_
        have e7 : cen ((X : Int) * (d : Int)) (m : Int) = ((X * d % m : Nat) : Int) - (m : Int) := by unfold cen; rw [← e4, if_pos h6]
        rw [← e7]
        exact sk_cut (E' := [(13, .int .i64 (cen ((X : Int) * (d : Int)) (m : Int))), (12, .int .i64 (d : Int)), (10, .int .i64 (X : Int)), (6, .int .i64 (most : Int)), (1, .int .i64 (m : Int)), (4, .pointer (some ⟨b4, 0, none⟩)), (5, .bool false)]) ⟨rfl, rfl, rfl, rfl, rfl, rfl, rfl, trivial⟩ ⟨trivial, rfl, uc, rfl⟩
      · rw [e5] at h6
        try refine run_s ?_
        have e7 : cen ((X : Int) * (d : Int)) (m : Int) = ((X * d % m : Nat) : Int) := by unfold cen; rw [← e4, if_neg h6]
        rw [← e7]
        exact sk_cut (E' := [(13, .int .i64 (cen ((X : Int) * (d : Int)) (m : Int))), (12, .int .i64 (d : Int)), (10, .int .i64 (X : Int)), (6, .int .i64 (most : Int)), (1, .int .i64 (m : Int)), (4, .pointer (some ⟨b4, 0, none⟩)), (5, .bool false)]) ⟨rfl, rfl, rfl, rfl, rfl, rfl, rfl, trivial⟩ ⟨trivial, rfl, uc, rfl⟩
    rintro E U6 M' ⟨-, rfl, hU6, rfl⟩
    obtain ⟨w, hw⟩ : ∃ w, w = cen ((X : Int) * (d : Int)) (m : Int) := ⟨_, rfl⟩
    rw [← hw]
    have hwd : (m : Int) ∣ w - (d : Int) * a := by rw [hw, hXa]; exact cen_dvd _ _
    have hwb : -(m : Int) ≤ w ∧ w ≤ m := by
      have h7 := Int.emod_nonneg ((X : Int) * (d : Int)) (show (m : Int) ≠ 0 by omega)
      have h8 := Int.emod_lt_of_pos ((X : Int) * (d : Int)) (show 0 < (m : Int) by omega)
      rw [hw]; unfold cen
      split <;> omega
    have hun : ∀ n' : Int, -(most : Int) ≤ n' → n' ≤ most → (m : Int) ∣ n' - (d : Int) * a → w = n' := fun n' k1 k2 k3 => by
      rw [hw]
      exact cen_uniq (by omega) (by omega) (by omega) k1 k2 ((hXa _ _).1 k3)
    have hnext : (¬ (Int.gcd (d : Int) (m : Int) = 1 ∧ w ≤ most ∧ -(most : Int) ≤ w)) → ∀ n' d' : Int, 1 ≤ d' → d' < ((d + 1 : Nat) : Int) → -(most : Int) ≤ n' → n' ≤ most → (m : Int) ∣ n' - d' * a → Int.gcd d' m ≠ 1 := fun hf n' d' k1 k2 k3 k4 k5 k6 => by
      by_cases e8 : d' < (d : Int)
      · exact hno n' d' k1 e8 k3 k4 k5 k6
      · have : d' = (d : Int) := by omega
        subst this
        have := hun n' k3 k4 k5
        exact hf ⟨k6, by omega, by omega⟩
    have hgc : ((Nat.gcd d m : Nat) : Int) = 1 ↔ Int.gcd (d : Int) (m : Int) = 1 := by
      show _ ↔ Nat.gcd (d : Int).natAbs (m : Int).natAbs = 1
      rw [Int.natAbs_natCast, Int.natAbs_natCast]; omega
    try refine run_s ?_
    refine sl_call rfl rfl rfl rfl rfl rfl (fun _ => z3Gcd_ct (a := d) (b := m) (by omega) (by omega)) ?_
    rintro v U' D hU ⟨rfl, rfl, rfl⟩
    repeat (first | refine run_S ?_ | refine w_box (fun _ => ?_) | refine w_al (fun _ => ?_))
    refine sl_gdec rfl rfl (fun h7 => ?_) (fun h7 => ?_)
    · repeat (first | refine run_S ?_ | refine w_box (fun _ => ?_) | refine w_al (fun _ => ?_))
      refine sl_gdec rfl rfl (fun h8 => ?_) (fun h8 => ?_)
      · repeat (first | refine run_S ?_ | refine w_box (fun _ => ?_) | refine w_al (fun _ => ?_))
        rw [e6]
        refine st_dec rfl (fun h9 => ?_) (fun h9 => ?_)
        · repeat (first | refine run_S ?_ | refine w_box (fun _ => ?_) | refine w_al (fun _ => ?_))
          have sw : Sz w 1 := by unfold Sz; omega
          have sd : Sz (d : Int) 1 := by unfold Sz; omega
          refine sl_call rfl rfl rfl rfl rfl rfl (fun _ => (rOf_ct (z := w) (by omega) (by omega)).settle) ?_
          rintro v Uh10 D hU ⟨rfl, _, _, ⟨xh10, rfl, h10, -⟩, -, -, hs⟩
          replace h10 := h10.sett hs
          clear hs
          repeat (first | refine run_S ?_ | refine w_box (fun _ => ?_) | refine w_al (fun _ => ?_))
          refine sl_call rfl rfl rfl rfl rfl rfl (fun _ => (rOf_ct (z := (d : Int)) (by omega) (by omega)).settle) ?_
          rintro v Uh11 D hU ⟨rfl, _, _, ⟨xh11, rfl, h11, -⟩, -, -, hs⟩
          replace h11 := h11.sett hs
          clear hs
          repeat (first | refine run_S ?_ | refine w_box (fun _ => ?_) | refine w_al (fun _ => ?_))
          refine sl_call rfl rfl rfl rfl rfl rfl (fun _ => rqOver_ct (h10.rep.up uc sb) (h10.le sw (by omega)) (h11.rep.up uc sb) (h11.le sd (by omega))) ?_
          rintro v12 U12 D12 hU12 ⟨r, rfl, h12, rfl⟩
          try rw [List.nil_append]
          repeat (first | refine run_S ?_ | refine w_box (fun _ => ?_) | refine w_al (fun _ => ?_))
          exact sk_ret [] sym rfl (.cons (.cell 0 rfl rfl rfl) (.cons (.tmp rfl) .nil)) uc sb (.inl rfl) ⟨r, true, rfl, rfl, most, hR1, hR2, .inr ⟨rfl, w, d, by omega, by omega, by omega, by omega, hgc.1 h7, hwd, h12⟩⟩
        · repeat (first | refine run_S ?_ | refine w_box (fun _ => ?_) | refine w_al (fun _ => ?_))
          exact sk_again (E' := [(12, .int .i64 ((d : Int) + 1)), (10, .int .i64 (X : Int)), (6, .int .i64 (most : Int)), (1, .int .i64 (m : Int)), (4, .pointer (some ⟨b4, 0, none⟩)), (5, .bool false)]) (m := most + 1 - (d + 1)) ⟨rfl, rfl, rfl, rfl, rfl, rfl, trivial⟩ (by omega) ⟨d + 1, by omega, by omega, hnext fun h => h9 (by omega), rfl, uc, rfl, rfl⟩
      · repeat (first | refine run_S ?_ | refine w_box (fun _ => ?_) | refine w_al (fun _ => ?_))
        exact sk_again (E' := [(12, .int .i64 ((d : Int) + 1)), (10, .int .i64 (X : Int)), (6, .int .i64 (most : Int)), (1, .int .i64 (m : Int)), (4, .pointer (some ⟨b4, 0, none⟩)), (5, .bool false)]) (m := most + 1 - (d + 1)) ⟨rfl, rfl, rfl, rfl, rfl, rfl, trivial⟩ (by omega) ⟨d + 1, by omega, by omega, hnext fun h => h8 (by omega), rfl, uc, rfl, rfl⟩
    · repeat (first | refine run_S ?_ | refine w_box (fun _ => ?_) | refine w_al (fun _ => ?_))
      exact sk_again (E' := [(12, .int .i64 ((d : Int) + 1)), (10, .int .i64 (X : Int)), (6, .int .i64 (most : Int)), (1, .int .i64 (m : Int)), (4, .pointer (some ⟨b4, 0, none⟩)), (5, .bool false)]) (m := most + 1 - (d + 1)) ⟨rfl, rfl, rfl, rfl, rfl, rfl, trivial⟩ (by omega) ⟨d + 1, by omega, by omega, hnext fun h => h7 (hgc.2 h.1), rfl, uc, rfl, rfl⟩
  · repeat (first | refine run_S ?_ | refine w_box (fun _ => ?_) | refine w_al (fun _ => ?_))
    exact sk_ret [] sym rfl (.cons (.cell 0 rfl rfl rfl) (.cons (.tmp rfl) .nil)) uc sb (.inl rfl) ⟨zeroQV, false, rfl, rfl, most, hR1, hR2, .inl ⟨rfl, rfl, fun n' d' k1 k2 k3 k4 k5 => hno n' d' k1 (by omega) k3 k4 k5⟩⟩
end Go.Proofs.Ytpigpikhjlmdoaa
