/- Walk of modmatrix.DetByPrimes. -/
import Derived.Test.YtpigpikhjlmdoaaGreatB190
import Derived.Test.YtpigpikhjlmdoaaGreatB193
import Derived.Test.YtpigpikhjlmdoaaGreatM44
import Derived.Test.YtpigpikhjlmdoaaGreatCw
namespace Go.Proofs.YtpigpikhjlmdoaaGreat
open Go.Hp
open Go.Fq (Pm Fp Prm)
variable {G : World} {U U' : UH} {M : MH}

theorem sm_le {m : Nat} {g : Nat → Int} {B : Int} (h : ∀ j, j < m → g j ≤ B) : Lr.sm m g ≤ m * B := by
  induction m with
  | zero => show (0 : Int) ≤ _; rw [Int.natCast_zero, Int.zero_mul]; exact Int.le_refl _
  | succ m ih =>
    have h1 := ih fun j hj => h j (by omega)
    have h2 := h m (by omega)
    show Lr.sm m g + g m ≤ _
    rw [Int.natCast_succ, Int.add_mul, Int.one_mul]
    omega
theorem hrow_bd {n : Nat} {f : Nat → Int} {i : Nat} (hn : n ≤ 6) (h : ∀ j, j < n → Sz (f (i * n + j)) 2) : 0 < hrow n f i ∧ hrow n f i ≤ 73786976294838206464 := by
  have h1 : ∀ j, j < n → f (i * n + j) * f (i * n + j) ≤ 340282366920938463463374607431768211456 := fun j hj => by
    have := (h j hj).mul (h j hj)
    unfold Sz at this
    have e : (4294967296 ^ (2 + 2) : Nat) = 340282366920938463463374607431768211456 := by decide
    omega
  have h2 := sm_le h1
  have h0 := sm_nn (m := n) (g := fun j => f (i * n + j) * f (i * n + j)) fun j _ => sq_nn _
  unfold hrow
  generalize (Lr.sm n fun j => f (i * n + j) * f (i * n + j)) = S at h2 h0
  have h3 := (Classical.choose_spec (isq_ex S.natAbs)).1
  have h4 : isq S.natAbs * isq S.natAbs ≤ S.natAbs := h3
  have h5 : isq S.natAbs < 73786976294838206464 := by
    rcases Nat.lt_or_ge (isq S.natAbs) 73786976294838206464 with h6 | h6
    · exact h6
    · have := Nat.mul_le_mul h6 h6
      omega
  omega
theorem pz_le {n : Nat} {g : Nat → Int} {B : Int} (hB : 1 ≤ B) (h : ∀ i, i < n → 0 < g i ∧ g i ≤ B) : La.pz n g ≤ B ^ n := by
  induction n with
  | zero => show (1 : Int) ≤ B ^ 0; rw [Int.pow_zero]; exact Int.le_refl _
  | succ n ih =>
    show La.pz n g * g n ≤ B ^ (n + 1)
    rw [Int.pow_succ]
    exact Int.mul_le_mul (ih fun i hi => h i (by omega)) (h n (by omega)).2 (by have := (h n (by omega)).1; omega) (Int.pow_nonneg (by omega))
theorem had_bd {n : Nat} {f : Nat → Int} (hn : n ≤ 6) (h : ∀ i j, i < n → j < n → Sz (f (i * n + j)) 2) : 0 < La.pz n (hrow n f) ∧ La.pz n (hrow n f) * 2 ≤ 4294967296 ^ 12 * 65536 := by
  have h1 := fun i (hi : i < n) => hrow_bd (i := i) (f := f) hn fun j hj => h i j hi hj
  refine ⟨La.pz_pos fun i hi => (h1 i hi).1, ?_⟩
  have h2 := pz_le (g := hrow n f) (B := 73786976294838206464) (by decide) h1
  have h3 : (73786976294838206464 : Int) ^ n ≤ 73786976294838206464 ^ 6 := by
    rcases show n = 0 ∨ n = 1 ∨ n = 2 ∨ n = 3 ∨ n = 4 ∨ n = 5 ∨ n = 6 by omega with rfl | rfl | rfl | rfl | rfl | rfl | rfl <;> decide
  have h4 : (73786976294838206464 : Int) ^ 6 * 2 ≤ 4294967296 ^ 12 * 65536 := by decide
  omega
theorem det_had {n : Nat} {f : Nat → Int} : -(La.pz n (hrow n f)) ≤ (Lr.det n fun i j => f (i * n + j)) ∧ (Lr.det n fun i j => f (i * n + j)) ≤ La.pz n (hrow n f) := by
  refine La.det_bound fun i hi => ?_
  have h0 := sm_nn (m := n) (g := fun j => f (i * n + j) * f (i * n + j)) fun j _ => sq_nn _
  unfold hrow
  generalize (Lr.sm n fun j => f (i * n + j) * f (i * n + j)) = S at h0
  have h3 : S.natAbs < (isq S.natAbs + 1) * (isq S.natAbs + 1) := (Classical.choose_spec (isq_ex S.natAbs)).2
  rw [← Int.natCast_mul]
  omega

theorem DetP_no {r c : Int} {p : Option Addr} {n cc : Nat} (hn : n ≤ 9223372036854775807) (h : ¬ (Vld r c n ∧ r = c)) :
    Ct Tryz.prog 32 [.agg #[.int .i64 r, .int .i64 c, .slice p n cc]] G U M fun v U' D => v = .tuple #[zeroIV.v, .int .i64 4] ∧ ULe U U' ∧ D = [] := by
  refine ct_of_st Tryz.func32 rfl rfl rfl rfl ?_
  repeat (first | refine run_S ?_ | refine w_box (fun _ => ?_) | refine w_al (fun _ => ?_))
  refine sl_call rfl rfl rfl rfl rfl rfl (fun _ => fHadamard_no (r := r) (c := c) (p := p) (n := n) (cc := cc) hn h) ?_
  rintro v1 U1 D hU1 ⟨rfl, -, rfl⟩
  rw [List.nil_append]
  repeat (first | refine run_S ?_ | refine w_box (fun _ => ?_) | refine w_al (fun _ => ?_))
  refine st_ne rfl (fun _ => ?_) (fun h => absurd h (by decide))
  repeat (first | refine run_S ?_ | refine w_box (fun _ => ?_) | refine w_al (fun _ => ?_))
  exact sk_ret [] sym rfl (.cons (.cell 1 rfl rfl rfl) (.cons (.tmp rfl) .nil)) uc sb (.inl rfl) ⟨rfl, uc, rfl⟩

set_option maxHeartbeats 4000000 in
theorem DetP_ct {n cc : Nat} {p : Option Addr} {vs : List Value} {f : Nat → Int} (rw1 : RowAt U [] 2 p (n * n) vs) (el : El (Xw 2) U vs f) (hcc : n * n ≤ cc) (hn : n ≤ 6) :
    Ct Tryz.prog 32 [.agg #[.int .i64 (n : Int), .int .i64 (n : Int), .slice p (n * n) cc]] G U M fun v U' D => ∃ x : IV, v = .tuple #[x.v, .int .i64 0] ∧ x.nrm U' [] (Lr.det n fun i j => f (i * n + j)) ∧ D = [] := by
  have hnn : n * n ≤ 6 * 6 := Nat.mul_le_mul hn hn
  have s1 : Sz (1 : Int) 1 := by unfold Sz; decide
  have s2 : Sz (2 : Int) 1 := by unfold Sz; decide
  have hsz2 : ∀ i j, i < n → j < n → Sz (f (i * n + j)) 2 := fun i j hi hj => by
    obtain ⟨v1, hv1⟩ := rw1.at (ij_lt hi hj)
    obtain ⟨x1, rfl, hx1, hn1⟩ := el _ _ hv1
    exact hx1.sz hn1
  obtain ⟨g1, g2⟩ := had_bd hn hsz2
  obtain ⟨g3, g4⟩ := det_had (n := n) (f := f)
  obtain ⟨d, hd⟩ : ∃ d, d = Lr.det n fun i j => f (i * n + j) := ⟨_, rfl⟩
  rw [← hd] at g3 g4 ⊢
  obtain ⟨h, hh⟩ : ∃ h, h = La.pz n (hrow n f) := ⟨_, rfl⟩
  rw [← hh] at g1 g2 g3 g4
  have e13 : (4294967296 : Nat) ^ 13 = 4294967296 ^ 12 * 65536 * 65536 := by decide
  have sh : Sz h 13 := by unfold Sz; rw [e13]; omega
  have sh2 : Sz (h * 2) 13 := by unfold Sz; rw [e13]; omega
  refine ct_of_st Tryz.func32 rfl rfl rfl rfl ?_
  repeat (first | refine run_S ?_ | refine w_box (fun _ => ?_) | refine w_al (fun _ => ?_))
  rename_i b1 b2
  refine sl_call rfl rfl rfl rfl rfl rfl (fun _ => fHadamard_ct (rw1.up uc (List.nil_sublist _)) (el.up kept_xw uc) hcc hn) ?_
  rintro v3 U3 D3 hU3 ⟨xh, rfl, hH, rfl⟩
  try rw [List.nil_append]
  repeat (first | refine run_S ?_ | refine w_box (fun _ => ?_) | refine w_al (fun _ => ?_))
  rw [← hh] at hH
  rename_i b4
  refine st_ne rfl (fun h => absurd rfl h) (fun _ => ?_)
  repeat (first | refine run_S ?_ | refine w_box (fun _ => ?_) | refine w_al (fun _ => ?_))
  refine st_drawM [4] [0, 1, 2, 3, 4] sym (by kernel_rfl) ?_
  repeat (first | refine run_S ?_ | refine w_box (fun _ => ?_) | refine w_al (fun _ => ?_))
  refine sl_call rfl rfl rfl rfl rfl rfl (fun _ => (Of_ct (z := 2) (by decide) (by decide)).settle) ?_
  rintro v Uh5 D hU ⟨rfl, _, _, ⟨xh5, rfl, h5, -⟩, -, -, hs⟩
  replace h5 := h5.sett hs
  clear hs
  repeat (first | refine run_S ?_ | refine w_box (fun _ => ?_) | refine w_al (fun _ => ?_))
  refine sl_call rfl rfl rfl rfl rfl rfl (fun _ => (Mul_ct (hH.rep.up uc (List.nil_sublist _)) (hH.le sh (by omega)) (h5.rep.up uc (List.nil_sublist _)) (h5.le s2 (by omega))).settle) ?_
  rintro v Uh6 D hU ⟨rfl, _, _, ⟨xh6, rfl, h6, -⟩, -, -, hs⟩
  replace h6 := h6.sett hs
  clear hs
  repeat (first | refine run_S ?_ | refine w_box (fun _ => ?_) | refine w_al (fun _ => ?_))
  rename_i b6
  repeat (first | refine run_S ?_ | refine w_box (fun _ => ?_) | refine w_al (fun _ => ?_))
  refine sl_call rfl rfl rfl rfl rfl rfl (fun _ => Primes_ct (n := 65521) (by decide) (by decide)) ?_
  rintro v7 U7 D hU7 ⟨k, F, vp, rfl, h7, hPL, rfl⟩
  rw [List.nil_append]
  obtain ⟨q7, c7, us7, rfl, hc7, rP, eP⟩ := id h7
  obtain ⟨Gp, hGp⟩ : ∃ Gp : Nat → Int, Gp = fun s => (F (k - 1 - s) : Int) := ⟨_, rfl⟩
  have hk5 : k ≤ 65522 := by
    have key : ∀ i, i < k → i ≤ F i := fun i => by
      induction i with
      | zero => exact fun _ => Nat.zero_le _
      | succ i ih =>
        intro hi
        have h8 := ih (by omega)
        have := hPL.mono i (i + 1) (by omega) hi
        omega
    rcases Nat.lt_or_ge 65522 k with h8 | h8
    · have h9 := key (k - 1) (by omega)
      have := (hPL.prm (k - 1) (by omega)).2
      omega
    · exact h8
  have hGpos : ∀ s, s < k → 0 < Gp s := fun s hs => by
    have := (hPL.prm (k - 1 - s) (by omega)).1.two
    rw [hGp]
    show (0 : Int) < (F (k - 1 - s) : Int)
    omega
  have hfull : h * 2 < La.pz k Gp := by
    have := Fq.pz_big (n := k) (f := Gp) hGpos fun q hq hq2 => by
      obtain ⟨i, hi, e⟩ := hPL.all q hq (by omega)
      refine ⟨k - 1 - i, by omega, ?_⟩
      rw [hGp]
      show (F (k - 1 - (k - 1 - i)) : Int) = (q : Int)
      rw [show k - 1 - (k - 1 - i) = i by omega, e]
    omega
  repeat (first | refine run_S ?_ | refine w_box (fun _ => ?_) | refine w_al (fun _ => ?_))
  refine sl_call rfl rfl rfl rfl rfl rfl (fun _ => (Of_ct (z := 0) (by decide) (by decide)).settle) ?_
  rintro v Uh9 D hU ⟨rfl, _, _, ⟨xh9, rfl, h9, -⟩, -, -, hs⟩
  replace h9 := h9.sett hs
  clear hs
  repeat (first | refine run_S ?_ | refine w_box (fun _ => ?_) | refine w_al (fun _ => ?_))
  refine sl_call rfl rfl rfl rfl rfl rfl (fun _ => (Of_ct (z := 1) (by decide) (by decide)).settle) ?_
  rintro v Uh10 D hU ⟨rfl, _, _, ⟨xh10, rfl, h10, -⟩, -, -, hs⟩
  replace h10 := h10.sett hs
  clear hs
  repeat (first | refine run_S ?_ | refine w_box (fun _ => ?_) | refine w_al (fun _ => ?_))
  rename_i b9 b10
  repeat (first | refine run_S ?_ | refine w_box (fun _ => ?_) | refine w_al (fun _ => ?_))
  rw [show (k : Int) - 1 = (k : Int) - 1 - ((0 : Nat) : Int) by omega]
  try refine st_anti (M' := (b10, .var xh10.v, 67) :: (b9, .var xh9.v, 67) :: (b6, .var xh6.v, 67) :: (b4, .var xh.v, 67) :: (b2, .var zeroIV.v, 67) :: (b1, .var (.agg #[.int .i64 (n : Int), .int .i64 (n : Int), .slice p (n * n) cc]), 63) :: M) (ULe.refl _) sbk ?_
  refine st_loop (fun z E U' M' => ∃ (y : Nat) (xx xm : IV) (X : Int), y ≤ k ∧ xx.nrm U' [] X ∧ xm.nrm U' [] (La.pz y Gp) ∧ Sz (La.pz y Gp) 13 ∧ 0 ≤ X ∧ X < La.pz y Gp ∧ La.pz y Gp ∣ X - d ∧ E = [(11, .int .i64 ((k : Int) - 1 - (y : Int))), (10, .pointer (some ⟨b10, 0, none⟩)), (9, .pointer (some ⟨b9, 0, none⟩)), (7, .slice q7 k c7), (6, .pointer (some ⟨b6, 0, none⟩)), (4, .pointer (some ⟨b4, 0, none⟩)), (2, .pointer (some ⟨b2, 0, none⟩)), (1, .pointer (some ⟨b1, 0, none⟩))] ∧ ULe Uh10 U' ∧ M' = (b10, .var xm.v, 67) :: (b9, .var xx.v, 67) :: (b6, .var xh6.v, 67) :: (b4, .var xh.v, 67) :: (b2, .var zeroIV.v, 67) :: (b1, .var (.agg #[.int .i64 (n : Int), .int .i64 (n : Int), .slice p (n * n) cc]), 63) :: M ∧ z = k - y) (n0 := k - 0) (E0 := [(11, .int .i64 ((k : Int) - 1 - ((0 : Nat) : Int))), (10, .pointer (some ⟨b10, 0, none⟩)), (9, .pointer (some ⟨b9, 0, none⟩)), (7, .slice q7 k c7), (6, .pointer (some ⟨b6, 0, none⟩)), (4, .pointer (some ⟨b4, 0, none⟩)), (2, .pointer (some ⟨b2, 0, none⟩)), (1, .pointer (some ⟨b1, 0, none⟩))]) ⟨rfl, rfl, rfl, rfl, rfl, rfl, rfl, rfl, trivial⟩ ⟨0, xh9, xh10, 0, by omega, h9.up uc (List.Sublist.refl _), h10, s1.mono (by decide), by decide, (show (0 : Int) < 1 by decide), (show (1 : Int) ∣ 0 - d from Int.one_dvd _), rfl, uc, rfl, rfl⟩ ?_
  rintro z E U11 M' ⟨y, xx, xm, X, ht, hxx, hxm, hms, hX0, hX1, hXd, rfl, hU11, rfl, rfl⟩
  try refine run_s ?_
  have sX : Sz X 13 := sz_le hms (by omega)
  by_cases hgo : y < k ∧ La.pz y Gp ≤ h * 2
  rotate_left
  · have hend : h * 2 < La.pz y Gp := by
      rcases Nat.lt_or_ge y k with h8 | h8
      · exact Int.not_le.1 fun h9 => hgo ⟨h8, h9⟩
      · rw [show y = k by omega]; exact hfull
    have hnear := Fq.crt_near hX0 hX1 hXd ⟨g3, g4⟩ hend
    repeat (first | refine run_S ?_ | refine w_box (fun _ => ?_) | refine w_al (fun _ => ?_))
    refine sl_gdec rfl rfl (fun h7 => ?_) (fun h7 => ?_)
    · repeat (first | refine run_S ?_ | refine w_box (fun _ => ?_) | refine w_al (fun _ => ?_))
      refine sl_call rfl rfl rfl rfl rfl rfl (fun _ => Cmp_ct (hxm.rep.up uc (List.nil_sublist _)) (hxm.le hms (by omega)) (h6.rep.up uc (List.nil_sublist _)) (h6.le sh2 (by omega))) ?_
      rintro v U' D hU ⟨rfl, rfl, rfl⟩
      repeat (first | refine run_S ?_ | refine w_box (fun _ => ?_) | refine w_al (fun _ => ?_))
      refine st_dec rfl (fun h7 => absurd h7 (by rw [Int.sign_eq_one_of_pos (show 0 < La.pz y Gp - h * 2 by omega)]; decide)) (fun _ => ?_)
      repeat (first | refine run_S ?_ | refine w_box (fun _ => ?_) | refine w_al (fun _ => ?_))
      refine sl_call rfl rfl rfl rfl rfl rfl (fun _ => Cmp_ct (hxm.rep.up uc (List.nil_sublist _)) (hxm.le hms (by omega)) (h6.rep.up uc (List.nil_sublist _)) (h6.le sh2 (by omega))) ?_
      rintro v U' D hU ⟨rfl, rfl, rfl⟩
      repeat (first | refine run_S ?_ | refine w_box (fun _ => ?_) | refine w_al (fun _ => ?_))
      refine st_dec rfl (fun h7 => absurd h7 (by rw [Int.sign_eq_one_of_pos (show 0 < La.pz y Gp - h * 2 by omega)]; decide)) (fun _ => ?_)
      repeat (first | refine run_S ?_ | refine w_box (fun _ => ?_) | refine w_al (fun _ => ?_))
      refine st_drawM [4] [0, 3, 1, 2, 4, 5] sym (by kernel_rfl) ?_
      repeat (first | refine run_S ?_ | refine w_box (fun _ => ?_) | refine w_al (fun _ => ?_))
      refine sl_call rfl rfl rfl rfl rfl rfl (fun _ => (Of_ct (z := 2) (by decide) (by decide)).settle) ?_
      rintro v Uh21 D hU ⟨rfl, _, _, ⟨xh21, rfl, h21, -⟩, -, -, hs⟩
      replace h21 := h21.sett hs
      clear hs
      repeat (first | refine run_S ?_ | refine w_box (fun _ => ?_) | refine w_al (fun _ => ?_))
      refine sl_call rfl rfl rfl rfl rfl rfl (fun _ => (Mul_ct (hxx.rep.up uc (List.nil_sublist _)) (hxx.le sX (by omega)) (h21.rep.up uc (List.nil_sublist _)) (h21.le s2 (by omega))).settle) ?_
      rintro v Uh22 D hU ⟨rfl, _, _, ⟨xh22, rfl, h22, -⟩, -, -, hs⟩
      replace h22 := h22.sett hs
      clear hs
      repeat (first | refine run_S ?_ | refine w_box (fun _ => ?_) | refine w_al (fun _ => ?_))
      refine sl_call rfl rfl rfl rfl rfl rfl (fun _ => Cmp_ct (h22.rep.up uc (List.nil_sublist _)) (h22.le (sX.mul s2) (by omega)) (hxm.rep.up uc (List.nil_sublist _)) (hxm.le hms (by omega))) ?_
      rintro v U' D hU ⟨rfl, rfl, rfl⟩
      repeat (first | refine run_S ?_ | refine w_box (fun _ => ?_) | refine w_al (fun _ => ?_))
      refine st_dec rfl (fun h7 => ?_) (fun h7 => ?_)
      · have h8 : X * 2 - La.pz y Gp > 0 := by
          rcases Int.lt_or_le 0 (X * 2 - La.pz y Gp) with h | h
          · exact h
          · rcases Int.lt_or_eq_of_le h with h9 | h9
            · rw [Int.sign_eq_neg_one_of_neg h9] at h7; exact absurd h7 (by decide)
            · rw [h9] at h7; exact absurd h7 (by decide)
        rw [if_pos h8] at hnear
        repeat (first | refine run_S ?_ | refine w_box (fun _ => ?_) | refine w_al (fun _ => ?_))
        refine sl_call rfl rfl rfl rfl rfl rfl (fun _ => (Sub_ct (hxx.rep.up uc (List.nil_sublist _)) (hxx.le sX (by omega)) (hxm.rep.up uc (List.nil_sublist _)) (hxm.le hms (by omega))).settle) ?_
        rintro v Uh23 D hU ⟨rfl, _, _, ⟨xh23, rfl, h23, -⟩, -, -, hs⟩
        replace h23 := h23.sett hs
        clear hs
        repeat (first | refine run_S ?_ | refine w_box (fun _ => ?_) | refine w_al (fun _ => ?_))
        repeat (first | refine run_S ?_ | refine w_box (fun _ => ?_) | refine w_al (fun _ => ?_))
        exact sk_ret [] sym rfl (.cons (.cell 4 rfl rfl rfl) (.cons (.tmp rfl) .nil)) uc sb (.inl rfl) ⟨xh23, rfl, by rw [hnear]; exact h23.up uc (List.Sublist.refl _), rfl⟩
      · have h8 : ¬ (X * 2 - La.pz y Gp > 0) := fun h => h7 (by rw [Int.sign_eq_one_of_pos h]; decide)
        rw [if_neg h8] at hnear
        repeat (first | refine run_S ?_ | refine w_box (fun _ => ?_) | refine w_al (fun _ => ?_))
        exact sk_ret [] sym rfl (.cons (.cell 4 rfl rfl rfl) (.cons (.tmp rfl) .nil)) uc sb (.inl rfl) ⟨xx, rfl, by rw [hnear]; exact hxx.up uc (List.Sublist.refl _), rfl⟩
    · repeat (first | refine run_S ?_ | refine w_box (fun _ => ?_) | refine w_al (fun _ => ?_))
      refine sl_call rfl rfl rfl rfl rfl rfl (fun _ => Cmp_ct (hxm.rep.up uc (List.nil_sublist _)) (hxm.le hms (by omega)) (h6.rep.up uc (List.nil_sublist _)) (h6.le sh2 (by omega))) ?_
      rintro v U' D hU ⟨rfl, rfl, rfl⟩
      repeat (first | refine run_S ?_ | refine w_box (fun _ => ?_) | refine w_al (fun _ => ?_))
      refine st_dec rfl (fun h7 => absurd h7 (by rw [Int.sign_eq_one_of_pos (show 0 < La.pz y Gp - h * 2 by omega)]; decide)) (fun _ => ?_)
      repeat (first | refine run_S ?_ | refine w_box (fun _ => ?_) | refine w_al (fun _ => ?_))
      refine st_drawM [4] [0, 3, 1, 2, 4, 5] sym (by kernel_rfl) ?_
      repeat (first | refine run_S ?_ | refine w_box (fun _ => ?_) | refine w_al (fun _ => ?_))
      refine sl_call rfl rfl rfl rfl rfl rfl (fun _ => (Of_ct (z := 2) (by decide) (by decide)).settle) ?_
      rintro v Uh21 D hU ⟨rfl, _, _, ⟨xh21, rfl, h21, -⟩, -, -, hs⟩
      replace h21 := h21.sett hs
      clear hs
      repeat (first | refine run_S ?_ | refine w_box (fun _ => ?_) | refine w_al (fun _ => ?_))
      refine sl_call rfl rfl rfl rfl rfl rfl (fun _ => (Mul_ct (hxx.rep.up uc (List.nil_sublist _)) (hxx.le sX (by omega)) (h21.rep.up uc (List.nil_sublist _)) (h21.le s2 (by omega))).settle) ?_
      rintro v Uh22 D hU ⟨rfl, _, _, ⟨xh22, rfl, h22, -⟩, -, -, hs⟩
      replace h22 := h22.sett hs
      clear hs
      repeat (first | refine run_S ?_ | refine w_box (fun _ => ?_) | refine w_al (fun _ => ?_))
      refine sl_call rfl rfl rfl rfl rfl rfl (fun _ => Cmp_ct (h22.rep.up uc (List.nil_sublist _)) (h22.le (sX.mul s2) (by omega)) (hxm.rep.up uc (List.nil_sublist _)) (hxm.le hms (by omega))) ?_
      rintro v U' D hU ⟨rfl, rfl, rfl⟩
      repeat (first | refine run_S ?_ | refine w_box (fun _ => ?_) | refine w_al (fun _ => ?_))
      refine st_dec rfl (fun h7 => ?_) (fun h7 => ?_)
      · have h8 : X * 2 - La.pz y Gp > 0 := by
          rcases Int.lt_or_le 0 (X * 2 - La.pz y Gp) with h | h
          · exact h
          · rcases Int.lt_or_eq_of_le h with h9 | h9
            · rw [Int.sign_eq_neg_one_of_neg h9] at h7; exact absurd h7 (by decide)
            · rw [h9] at h7; exact absurd h7 (by decide)
        rw [if_pos h8] at hnear
        repeat (first | refine run_S ?_ | refine w_box (fun _ => ?_) | refine w_al (fun _ => ?_))
        refine sl_call rfl rfl rfl rfl rfl rfl (fun _ => (Sub_ct (hxx.rep.up uc (List.nil_sublist _)) (hxx.le sX (by omega)) (hxm.rep.up uc (List.nil_sublist _)) (hxm.le hms (by omega))).settle) ?_
        rintro v Uh23 D hU ⟨rfl, _, _, ⟨xh23, rfl, h23, -⟩, -, -, hs⟩
        replace h23 := h23.sett hs
        clear hs
        repeat (first | refine run_S ?_ | refine w_box (fun _ => ?_) | refine w_al (fun _ => ?_))
        repeat (first | refine run_S ?_ | refine w_box (fun _ => ?_) | refine w_al (fun _ => ?_))
        exact sk_ret [] sym rfl (.cons (.cell 4 rfl rfl rfl) (.cons (.tmp rfl) .nil)) uc sb (.inl rfl) ⟨xh23, rfl, by rw [hnear]; exact h23.up uc (List.Sublist.refl _), rfl⟩
      · have h8 : ¬ (X * 2 - La.pz y Gp > 0) := fun h => h7 (by rw [Int.sign_eq_one_of_pos h]; decide)
        rw [if_neg h8] at hnear
        repeat (first | refine run_S ?_ | refine w_box (fun _ => ?_) | refine w_al (fun _ => ?_))
        exact sk_ret [] sym rfl (.cons (.cell 4 rfl rfl rfl) (.cons (.tmp rfl) .nil)) uc sb (.inl rfl) ⟨xx, rfl, by rw [hnear]; exact hxx.up uc (List.Sublist.refl _), rfl⟩
  obtain ⟨htk, hmle⟩ := hgo
  repeat (first | refine run_S ?_ | refine w_box (fun _ => ?_) | refine w_al (fun _ => ?_))
  refine sl_gdec rfl rfl (fun h7 => ?_) (fun h7 => absurd (by omega) h7)
  repeat (first | refine run_S ?_ | refine w_box (fun _ => ?_) | refine w_al (fun _ => ?_))
  refine sl_call rfl rfl rfl rfl rfl rfl (fun _ => Cmp_ct (hxm.rep.up uc (List.nil_sublist _)) (hxm.le hms (by omega)) (h6.rep.up uc (List.nil_sublist _)) (h6.le sh2 (by omega))) ?_
  rintro v U' D hU ⟨rfl, rfl, rfl⟩
  repeat (first | refine run_S ?_ | refine w_box (fun _ => ?_) | refine w_al (fun _ => ?_))
  refine st_dec rfl (fun _ => ?_) (fun h7 => absurd (show (La.pz y Gp - h * 2).sign ≤ 0 by
    rcases Int.lt_or_eq_of_le (show La.pz y Gp - h * 2 ≤ 0 by omega) with h9 | h9
    · rw [Int.sign_eq_neg_one_of_neg h9]; decide
    · rw [h9]; decide) h7)
  obtain ⟨v1, hv1⟩ := rP.at (show k - 1 - y < k by omega)
  obtain rfl := eP _ _ hv1
  obtain ⟨hpr, hlt⟩ := hPL.prm (k - 1 - y) (by omega)
  obtain ⟨P, hP⟩ : ∃ P : Pm, P.1 = F (k - 1 - y) := ⟨⟨_, hpr⟩, rfl⟩
  rw [← hP] at hv1 hlt
  have hGy : Gp y = (P.1 : Int) := by rw [hGp, hP]
  have hp2 := P.2.two
  have sP : Sz (P.1 : Int) 1 := by unfold Sz; omega
  have hgc : Int.gcd (La.pz y Gp) (P.1 : Int) = 1 := Fq.pz_cop P.2 fun s hs => ⟨F (k - 1 - s), by rw [hGp], (hPL.prm (k - 1 - s) (by omega)).1, by
    rw [hP]
    have := hPL.mono (k - 1 - y) (k - 1 - s) (by omega) (by omega)
    omega⟩
  repeat (first | refine run_S ?_ | refine w_box (fun _ => ?_) | refine w_al (fun _ => ?_))
  refine sl_y (yl_index sym rfl rfl rfl rfl rfl ( by omega) ((rP.up uc sb).lt hv1) ((rP.up uc sb).get _ _ hv1).1) rfl rfl rfl rfl ?_; refine sl_y (yl_loadR1 sym rfl rfl rfl rfl (rP.up uc sb) hv1 rfl) rfl rfl rfl rfl ?_
  repeat (first | refine run_S ?_ | refine w_box (fun _ => ?_) | refine w_al (fun _ => ?_))
  rename_i b13
  try refine st_anti (M' := (b13, .var (.agg #[.int .i64 (n : Int), .int .i64 (n : Int), .slice none 0 0]), TF) :: (b10, .var xm.v, 67) :: (b9, .var xx.v, 67) :: (b6, .var xh6.v, 67) :: (b4, .var xh.v, 67) :: (b2, .var zeroIV.v, 67) :: (b1, .var (.agg #[.int .i64 (n : Int), .int .i64 (n : Int), .slice p (n * n) cc]), 63) :: (([]) ++ M)) (ULe.refl _) sbk ?_
  refine st_loop (fun z E U' M' => ∃ (j : Nat) (Q : Option Addr) (C : Nat) (us : List Value) (D : MH), j ≤ n * n ∧ RowO TInt 1 D Q j C us ∧ El (Vf P) U' us (fun i => Fq.of P (f i)) ∧ E = [(59, .slice p (n * n) cc), (60, .int .i64 ((n * n) : Int)), (61, .int .i64 (j : Int)), (13, .pointer (some ⟨b13, 0, none⟩)), (12, .int .i64 (P.1 : Int)), (11, .int .i64 ((k : Int) - 1 - (y : Int))), (10, .pointer (some ⟨b10, 0, none⟩)), (9, .pointer (some ⟨b9, 0, none⟩)), (7, .slice q7 k c7), (6, .pointer (some ⟨b6, 0, none⟩)), (4, .pointer (some ⟨b4, 0, none⟩)), (2, .pointer (some ⟨b2, 0, none⟩)), (1, .pointer (some ⟨b1, 0, none⟩))] ∧ ULe U11 U' ∧ M' = (b13, .var (.agg #[.int .i64 (n : Int), .int .i64 (n : Int), .slice Q j C]), TF) :: (b10, .var xm.v, 67) :: (b9, .var xx.v, 67) :: (b6, .var xh6.v, 67) :: (b4, .var xh.v, 67) :: (b2, .var zeroIV.v, 67) :: (b1, .var (.agg #[.int .i64 (n : Int), .int .i64 (n : Int), .slice p (n * n) cc]), 63) :: (D ++ M) ∧ z = n * n - j) (n0 := n * n - 0) (E0 := [(59, .slice p (n * n) cc), (60, .int .i64 ((n * n) : Int)), (61, .int .i64 ((0 : Nat) : Int)), (13, .pointer (some ⟨b13, 0, none⟩)), (12, .int .i64 (P.1 : Int)), (11, .int .i64 ((k : Int) - 1 - (y : Int))), (10, .pointer (some ⟨b10, 0, none⟩)), (9, .pointer (some ⟨b9, 0, none⟩)), (7, .slice q7 k c7), (6, .pointer (some ⟨b6, 0, none⟩)), (4, .pointer (some ⟨b4, 0, none⟩)), (2, .pointer (some ⟨b2, 0, none⟩)), (1, .pointer (some ⟨b1, 0, none⟩))]) ⟨rfl, rfl, rfl, rfl, rfl, rfl, rfl, rfl, rfl, rfl, rfl, rfl, rfl, trivial⟩ ⟨0, none, 0, [], [], by omega, RowO.nil, El.nil, rfl, uc, rfl, rfl⟩ ?_
  rintro z E U12 M' ⟨j, Q, C, us, D, hj, hrow, hel, rfl, hU12, rfl, rfl⟩
  try refine run_s ?_
  refine st_dec rfl (fun h8 => ?_) (fun h8 => ?_)
  · have hjn : j < n * n := by omega
    obtain ⟨v2, hv2⟩ := rw1.at hjn
    obtain ⟨x1, rfl, hx1, hn1⟩ := el _ _ hv2
    repeat (first | refine run_S ?_ | refine w_box (fun _ => ?_) | refine w_al (fun _ => ?_))
    refine w_addr (j := j) hjn (rw1.get _ _ hv2).1 ?_
    refine sl_y (yl_loadRs sym rfl rfl rfl rfl rfl (rw1.up uc (List.nil_sublist _)) hv2) rfl rfl rfl rfl ?_
    repeat (first | refine run_S ?_ | refine w_box (fun _ => ?_) | refine w_al (fun _ => ?_))
    rename_i b15
    refine st_drawM [6, 7, 8] [0, 1, 2, 3, 4, 5, 6, 7, 8] sym (by kernel_rfl) ?_
    repeat (first | refine run_S ?_ | refine w_box (fun _ => ?_) | refine w_al (fun _ => ?_))
    refine sl_call rfl rfl rfl rfl rfl rfl (fun _ => fof_ct (P := P) (hx1.up uc (List.nil_sublist _)) (by omega) (by omega)) ?_
    rintro v13 U13 D13 hU13 ⟨rfl, -, rfl⟩
    try rw [List.nil_append]
    repeat (first | refine run_S ?_ | refine w_box (fun _ => ?_) | refine w_al (fun _ => ?_))
    refine w_push hrow (X := (b15, .var (.agg #[.bool x1.neg, .slice x1.p x1.n x1.c]), 67) :: (b13, .var (.agg #[.int .i64 (n : Int), .int .i64 (n : Int), .slice Q j C]), TF) :: (b10, .var xm.v, 67) :: (b9, .var xx.v, 67) :: (b6, .var xh6.v, 67) :: (b4, .var xh.v, 67) :: (b2, .var zeroIV.v, 67) :: (b1, .var (.agg #[.int .i64 (n : Int), .int .i64 (n : Int), .slice p (n * n) cc]), 63) :: M) pfs (fun b q2 c2 D2 hr2 => ?_)
    refine sl_perm (M' := (b15, .var (.agg #[.bool x1.neg, .slice x1.p x1.n x1.c]), 67) :: (b13, .var (.agg #[.int .i64 (n : Int), .int .i64 (n : Int), .slice Q j C]), TF) :: (b10, .var xm.v, 67) :: (b9, .var xx.v, 67) :: (b6, .var xh6.v, 67) :: (b4, .var xh.v, 67) :: (b2, .var zeroIV.v, 67) :: (b1, .var (.agg #[.int .i64 (n : Int), .int .i64 (n : Int), .slice p (n * n) cc]), 63) :: (D2 ++ M)) ?_ pf
    repeat (first | refine run_S ?_ | refine w_box (fun _ => ?_) | refine w_al (fun _ => ?_))
    refine sl_storeF 1 sym rfl rfl rfl rfl rfl rfl rfl rfl rfl rfl rfl ?_
    repeat (first | refine run_S ?_ | refine w_box (fun _ => ?_) | refine w_al (fun _ => ?_))
    refine sk_anti (M' := (b13, .var (.agg #[.int .i64 (n : Int), .int .i64 (n : Int), .slice q2 (j + 1) c2]), TF) :: (b10, .var xm.v, 67) :: (b9, .var xx.v, 67) :: (b6, .var xh6.v, 67) :: (b4, .var xh.v, 67) :: (b2, .var zeroIV.v, 67) :: (b1, .var (.agg #[.int .i64 (n : Int), .int .i64 (n : Int), .slice p (n * n) cc]), 63) :: (D2 ++ M)) (ULe.refl _) sbk ?_
    exact sk_again (E' := [(59, .slice p (n * n) cc), (60, .int .i64 ((n * n) : Int)), (61, .int .i64 ((j : Int) + 1)), (13, .pointer (some ⟨b13, 0, none⟩)), (12, .int .i64 (P.1 : Int)), (11, .int .i64 ((k : Int) - 1 - (y : Int))), (10, .pointer (some ⟨b10, 0, none⟩)), (9, .pointer (some ⟨b9, 0, none⟩)), (7, .slice q7 k c7), (6, .pointer (some ⟨b6, 0, none⟩)), (4, .pointer (some ⟨b4, 0, none⟩)), (2, .pointer (some ⟨b2, 0, none⟩)), (1, .pointer (some ⟨b1, 0, none⟩))]) (m := n * n - (j + 1)) ⟨rfl, rfl, rfl, rfl, rfl, rfl, rfl, rfl, rfl, rfl, rfl, rfl, rfl, trivial⟩ (by omega) ⟨j + 1, q2, c2, _, D2, by omega, hr2, snoc_ok hrow.len.1 (hel.up KeptC.out uc) rfl, rfl, uc, rfl, rfl⟩
  obtain rfl : j = n * n := by omega
  have hdlt := (Fq.of P d).lt
  have sR : Sz ((Fq.of P d).v : Int) 13 := Sz.mono (j := 1) (by unfold Sz; omega) (by decide)
  have elz : El Vz U12 us (fl n fun i j => ((Fq.of P (f (i * n + j))).v : Int)) := fun i x hx => by
    have h9 := hel i x hx
    have h10 := (Fq.of P (f i)).lt
    have e9 : fl n (fun i j => ((Fq.of P (f (i * n + j))).v : Int)) i = ((Fq.of P (f i)).v : Int) := by show ((Fq.of P (f (i / n * n + i % n))).v : Int) = _; rw [Nat.mul_comm, Nat.div_add_mod]
    rw [e9]
    exact ⟨h9, by omega, by omega⟩
  have hdet : La.det n (Ofm P fun i j => ((Fq.of P (f (i * n + j))).v : Int)) = Fq.of P d := by
    have h9 := (Fq.hom_of P).det n fun i j => f (i * n + j)
    rw [Lr.det_la] at h9
    rw [hd, h9]
    exact La.det_congr fun i j _ _ => Fq.of_v _
  repeat (first | refine run_S ?_ | refine w_box (fun _ => ?_) | refine w_al (fun _ => ?_))
  refine sl_call rfl rfl rfl rfl rfl rfl (fun _ => fDet_ct (P := P) (n := n) (A := fun i j => ((Fq.of P (f (i * n + j))).v : Int)) ⟨_, rfl, Q, C, us, rfl, hrow.len.2.1, hrow.at sb, elz⟩ (by omega) (by omega)) ?_
  rintro v14 U14 D14 hU14 ⟨rfl, -, rfl⟩
  rw [List.nil_append, hdet]
  repeat (first | refine run_S ?_ | refine w_box (fun _ => ?_) | refine w_al (fun _ => ?_))
  refine st_drawM [6, 7] [0, 1, 2, 4, 3, 5, 6, 7] sym (by kernel_rfl) ?_
  repeat (first | refine run_S ?_ | refine w_box (fun _ => ?_) | refine w_al (fun _ => ?_))
  refine sl_call rfl rfl rfl rfl rfl rfl (fun _ => (Of_ct (z := ((Fq.of P d).v : Int)) (by omega) (by omega)).settle) ?_
  rintro v Uh15 D hU ⟨rfl, _, _, ⟨xh15, rfl, h15, -⟩, -, -, hs⟩
  replace h15 := h15.sett hs
  clear hs
  repeat (first | refine run_S ?_ | refine w_box (fun _ => ?_) | refine w_al (fun _ => ?_))
  refine sl_call rfl rfl rfl rfl rfl rfl (fun _ => (Of_ct (z := (P.1 : Int)) (by omega) (by omega)).settle) ?_
  rintro v Uh16 D hU ⟨rfl, _, _, ⟨xh16, rfl, h16, -⟩, -, -, hs⟩
  replace h16 := h16.sett hs
  clear hs
  repeat (first | refine run_S ?_ | refine w_box (fun _ => ?_) | refine w_al (fun _ => ?_))
  refine sl_call rfl rfl rfl rfl rfl rfl (fun _ => combined_ct (k := 13) (by decide) (hxx.rep.up uc (List.nil_sublist _)) sX (hxx.le sX (by omega)) (hxm.rep.up uc (List.nil_sublist _)) hms (hxm.le hms (by omega)) (h15.rep.up uc (List.nil_sublist _)) sR (h15.le sR (by omega)) (h16.rep.up uc (List.nil_sublist _)) (sP.mono (by decide)) (h16.le sP (by omega)) (by omega) hgc) ?_
  rintro v17 U17 D17 hU17 ⟨o, u, rfl, rfl, hu, ho⟩
  try rw [List.nil_append]
  repeat (first | refine run_S ?_ | refine w_box (fun _ => ?_) | refine w_al (fun _ => ?_))
  obtain ⟨c1, c2, c3, c4⟩ := Fq.crt_step (x := X) (M := La.pz y Gp) (r := ((Fq.of P d).v : Int)) (m := (P.1 : Int)) (u := u) (by omega) (by omega) hX0 hX1 hu
  obtain ⟨X', hX'⟩ : ∃ X', X' = X + La.pz y Gp * (((((Fq.of P d).v : Int) - X) * u) % (P.1 : Int)) := ⟨_, rfl⟩
  rw [← hX'] at ho c1 c2 c3 c4
  have hpz : La.pz (y + 1) Gp = La.pz y Gp * (P.1 : Int) := by rw [← hGy]; rfl
  have szn : Sz (La.pz y Gp * (P.1 : Int)) 13 := by
    have q0 : 0 ≤ La.pz y Gp * (P.1 : Int) := Int.mul_nonneg (by omega) (by omega)
    have q1 : La.pz y Gp * (P.1 : Int) ≤ (4294967296 ^ 12 * 65536) * 65521 := Int.mul_le_mul (by omega) (by omega) (by omega) (by decide)
    unfold Sz
    rw [e13]
    omega
  have hdvd : La.pz y Gp * (P.1 : Int) ∣ X' - d := by
    refine Fq.mul_dvd hgc ?_ ?_
    · have := Int.dvd_add c4 hXd
      rwa [show X' - X + (X - d) = X' - d by omega] at this
    · have h9 : (P.1 : Int) ∣ d - d % (P.1 : Int) := Int.dvd_self_sub_emod
      rw [← Fq.of_val] at h9
      have := Int.dvd_sub c3 h9
      rwa [show X' - ((Fq.of P d).v : Int) - (d - ((Fq.of P d).v : Int)) = X' - d by omega] at this
  repeat (first | refine run_S ?_ | refine w_box (fun _ => ?_) | refine w_al (fun _ => ?_))
  refine st_drawM [3, 4] [0, 1, 2, 3, 4] sym (by kernel_rfl) ?_
  repeat (first | refine run_S ?_ | refine w_box (fun _ => ?_) | refine w_al (fun _ => ?_))
  refine sl_call rfl rfl rfl rfl rfl rfl (fun _ => (Of_ct (z := (P.1 : Int)) (by omega) (by omega)).settle) ?_
  rintro v Uh18 D hU ⟨rfl, _, _, ⟨xh18, rfl, h18, -⟩, -, -, hs⟩
  replace h18 := h18.sett hs
  clear hs
  repeat (first | refine run_S ?_ | refine w_box (fun _ => ?_) | refine w_al (fun _ => ?_))
  refine sl_call rfl rfl rfl rfl rfl rfl (fun _ => (Mul_ct (hxm.rep.up uc (List.nil_sublist _)) (hxm.le hms (by omega)) (h18.rep.up uc (List.nil_sublist _)) (h18.le sP (by omega))).settle) ?_
  rintro v Uh19 D hU ⟨rfl, _, _, ⟨xh19, rfl, h19, -⟩, -, -, hs⟩
  replace h19 := h19.sett hs
  clear hs
  repeat (first | refine run_S ?_ | refine w_box (fun _ => ?_) | refine w_al (fun _ => ?_))
  repeat (first | refine run_S ?_ | refine w_box (fun _ => ?_) | refine w_al (fun _ => ?_))
  rw [show (k : Int) - 1 - (y : Int) - 1 = (k : Int) - 1 - ((y + 1 : Nat) : Int) by omega]
  refine sk_anti (M' := (b10, .var xh19.v, 67) :: (b9, .var o.v, 67) :: (b6, .var xh6.v, 67) :: (b4, .var xh.v, 67) :: (b2, .var zeroIV.v, 67) :: (b1, .var (.agg #[.int .i64 (n : Int), .int .i64 (n : Int), .slice p (n * n) cc]), 63) :: M) (ULe.refl _) sbk ?_
  exact sk_again (E' := [(11, .int .i64 ((k : Int) - 1 - ((y : Int) + 1))), (10, .pointer (some ⟨b10, 0, none⟩)), (9, .pointer (some ⟨b9, 0, none⟩)), (7, .slice q7 k c7), (6, .pointer (some ⟨b6, 0, none⟩)), (4, .pointer (some ⟨b4, 0, none⟩)), (2, .pointer (some ⟨b2, 0, none⟩)), (1, .pointer (some ⟨b1, 0, none⟩))]) (m := k - (y + 1)) ⟨rfl, rfl, rfl, rfl, rfl, rfl, rfl, rfl, trivial⟩ (by omega) ⟨y + 1, o, xh19, X', by omega, ho.up uc (List.Sublist.refl _), (by rw [hpz]; exact h19), (by rw [hpz]; exact szn), c1, (by rw [hpz]; exact c2), (by rw [hpz]; exact hdvd), rfl, uc, rfl, rfl⟩
end Go.Proofs.YtpigpikhjlmdoaaGreat
