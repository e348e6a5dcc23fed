/- The law of layer 13 on fractions and their residues. -/
import Derived.Test.YtpigpikhjlmdoaaM43
import Derived.Test.YtpigpikhjlmdoaaB165
import Derived.Test.YtpigpikhjlmdoaaB171
import Derived.Test.YtpigpikhjlmdoaaB172
namespace Go.Proofs.Ytpigpikhjlmdoaa
open Go.Hp Go.Fq
variable {G : World} {U U' : UH} {M : MH}

theorem abs_in {a b : Int} (h : (a.natAbs : Int) ≤ b) : -b ≤ a ∧ a ≤ b := by omega
/-- The residue of a fraction, made by Chinese remainders. -/
theorem frac_res {X n d m k : Int} (h1 : d ∣ X - 0) (h2 : m ∣ X - 1) : m ∣ n - d * (X / d * n + k * m) := by
  have e : d * (X / d) = X := Int.mul_ediv_cancel' (by simpa using h1)
  have e2 : n - d * (X / d * n + k * m) = -(X - 1) * n - m * (d * k) := by
    rw [Int.mul_add, ← Int.mul_assoc d, e, Int.neg_mul, Int.sub_mul, Int.one_mul, Int.mul_comm k m, Int.mul_left_comm d m k]
    omega
  rw [e2]
  exact Int.dvd_sub (Int.dvd_mul_of_dvd_left (Int.dvd_neg.2 h2)) (Int.dvd_mul_right ..)

theorem out_two {a b X K e : Int} (ha : 1 ≤ a) (hb : 1 ≤ b) (hg : Int.gcd a b = 1) (h : Out (fun i => if i = 0 then 0 else 1) (fun i => if i = 0 then a else b) 2 X K e) :
    e = 0 ∧ 0 ≤ X ∧ X < K ∧ K = a * b ∧ a ∣ X - 0 ∧ b ∣ X - 1 := by
  have hm : ∀ i, i < 2 → 1 ≤ (if i = 0 then a else b) := fun i _ => by split <;> assumption
  have key : ∀ {i : Nat} {x M : Int}, i < 2 → Ch (fun i => if i = 0 then 0 else 1) (fun i => if i = 0 then a else b) i x M → Int.gcd M (if i = 0 then a else b) = 1 := by
    intro i x M hi hC
    cases hC with
    | zero => exact Int.one_gcd
    | @succ i x M u hC _ _ _ =>
      obtain rfl : i = 0 := by omega
      cases hC
      simpa using hg
  cases h with
  | ok hC =>
    have hf := hC.fact
    cases hC with
    | succ hC _ _ _ =>
      cases hC with
      | succ hC _ _ _ =>
        cases hC
        refine ⟨rfl, hf.2.1, hf.2.2.1, by simp, (hf.2.2.2.2 0 (by decide)).2, (hf.2.2.2.2 1 (by decide)).2⟩
  | range hi hC h1 => have := hm _ hi; omega
  | coprime hi hC h1 h2 => exact absurd (key hi hC) h2

set_option maxRecDepth 100000 in
theorem ModmatrixFractions_ct {x : QV} {m k : IV} {q : Rat} {zm zk : Int} (hx : x.rep U [] q) (hxn : x.le 137438953472) (hm : m.rep U [] zm) (hk : k.rep U [] zk) :
    Ct Try.prog 5 [x.v, m.v, k.v] G U M fun v _ _ => v = .bool true := by
  have s0 : Sz (0 : Int) 1 := by unfold Sz; decide
  have s1 : Sz (1 : Int) 1 := by unfold Sz; decide
  have s2 : Sz (2 : Int) 1 := by unfold Sz; decide
  have hd0 := rat_den_pos q
  refine ct_of_st Try.func5 rfl rfl rfl rfl ?_
  repeat (first | refine run_S ?_ | refine w_box (fun _ => ?_) | refine w_al (fun _ => ?_))
  rename_i b3 b4 b5
  refine sl_call rfl rfl rfl rfl rfl rfl (fun _ => awake13_ct) ?_
  rintro v1 U1 D1 hU1 ⟨rfl, -, rfl⟩
  rw [List.nil_append]
  repeat (first | refine run_S ?_ | refine w_box (fun _ => ?_) | refine w_al (fun _ => ?_))
  refine sl_call rfl rfl rfl rfl rfl rfl (fun _ => rqNormal_ct (hx.up uc sb) hxn) ?_
  rintro v Uh2 D hU ⟨xh2, rfl, h2, rfl⟩
  repeat (first | refine run_S ?_ | refine w_box (fun _ => ?_) | refine w_al (fun _ => ?_))
  rename_i b7
  refine st_drawM [0, 1, 2, 3, 5, 6, 7, 8, 9, 13, 14, 15, 17, 18, 19, 20, 21, 22, 24, 25, 26, 27, 28, 29] [0, 1, 2, 3, 4, 5, 6, 7, 8, 9, 10, 11, 12, 13, 14, 15, 16, 17, 18, 19, 20, 21, 22, 23, 24, 25, 26, 27, 28, 29] sym (by kernel_rfl) ?_
  repeat (first | refine run_S ?_ | refine w_box (fun _ => ?_) | refine w_al (fun _ => ?_))
  refine sl_gdec rfl rfl (fun h => ?_) (fun hn1 => ?_)
  · repeat (first | refine run_S ?_ | refine w_box (fun _ => ?_) | refine w_al (fun _ => ?_))
    exact sk_ret [] sym rfl (.cons (.tmp rfl) .nil) uc sb (.inl rfl) rfl
  repeat (first | refine run_S ?_ | refine w_box (fun _ => ?_) | refine w_al (fun _ => ?_))
  refine sl_gdec rfl rfl (fun h => ?_) (fun hn2 => ?_)
  · repeat (first | refine run_S ?_ | refine w_box (fun _ => ?_) | refine w_al (fun _ => ?_))
    exact sk_ret [] sym rfl (.cons (.tmp rfl) .nil) uc sb (.inl rfl) rfl
  repeat (first | refine run_S ?_ | refine w_box (fun _ => ?_) | refine w_al (fun _ => ?_))
  refine sl_call rfl rfl rfl rfl rfl rfl (fun _ => (rOf_ct (z := 2) (by decide) (by decide)).settle) ?_
  rintro v Uh3 D hU ⟨rfl, _, _, ⟨xh3, rfl, h3, -⟩, -, -, hs⟩
  replace h3 := h3.sett hs
  clear hs
  repeat (first | refine run_S ?_ | refine w_box (fun _ => ?_) | refine w_al (fun _ => ?_))
  refine sl_call rfl rfl rfl rfl rfl rfl (fun _ => rCmp_ct (hm.up uc sb) (by omega) (h3.rep.up uc sb) (h3.le (s2) (by omega))) ?_
  rintro v U' D hU ⟨rfl, rfl, rfl⟩
  repeat (first | refine run_S ?_ | refine w_box (fun _ => ?_) | refine w_al (fun _ => ?_))
  refine sl_gdec rfl rfl (fun h => ?_) (fun hn3 => ?_)
  · repeat (first | refine run_S ?_ | refine w_box (fun _ => ?_) | refine w_al (fun _ => ?_))
    exact sk_ret [] sym rfl (.cons (.tmp rfl) .nil) uc sb (.inl rfl) rfl
  have hm2 : 2 ≤ zm := by
    rcases Int.lt_or_le zm 2 with h | h
    · exact absurd (by rw [Int.sign_eq_neg_one_of_neg (by omega)]; decide) hn3
    · exact h
  repeat (first | refine run_S ?_ | refine w_box (fun _ => ?_) | refine w_al (fun _ => ?_))
  refine sl_gdec rfl rfl (fun h => ?_) (fun hn4 => ?_)
  · repeat (first | refine run_S ?_ | refine w_box (fun _ => ?_) | refine w_al (fun _ => ?_))
    exact sk_ret [] sym rfl (.cons (.tmp rfl) .nil) uc sb (.inl rfl) rfl
  repeat (first | refine run_S ?_ | refine w_box (fun _ => ?_) | refine w_al (fun _ => ?_))
  refine st_dec rfl (fun h => ?_) (fun hn5 => ?_)
  · repeat (first | refine run_S ?_ | refine w_box (fun _ => ?_) | refine w_al (fun _ => ?_))
    exact sk_ret [] sym rfl (.cons (.tmp rfl) .nil) uc sb (.inl rfl) rfl
  have sm : Sz zm 6 := hm.sz (by omega)
  have sk : Sz zk 6 := hk.sz (by omega)
  have sn : Sz q.num 3 := h2.1.rep.sz (by omega)
  have sd : Sz (q.den : Int) 3 := h2.2.rep.sz (by omega)
  repeat (first | refine run_S ?_ | refine w_box (fun _ => ?_) | refine w_al (fun _ => ?_))
  refine sl_call rfl rfl rfl rfl rfl rfl (fun _ => z13Limit_ct (hm.up uc sb) (by omega) (by omega)) ?_
  rintro v4 U4 D4 hU4 ⟨x4, most, rfl, h4, hR1, hR2, rfl⟩
  try rw [List.nil_append]
  repeat (first | refine run_S ?_ | refine w_box (fun _ => ?_) | refine w_al (fun _ => ?_))
  have hmm : (most : Int) ≤ zm := by
    have : most ≤ most * most ∨ most = 0 := by
      rcases Nat.eq_zero_or_pos most with h | h
      · exact .inr h
      · exact .inl (Nat.le_mul_of_pos_left most h)
    omega
  have s4 : Sz (most : Int) 6 := sz_le sm (by omega)
  refine st_drawM [4, 5, 10, 11, 12, 17, 18, 19, 20, 21] [0, 1, 3, 2, 4, 5, 6, 7, 8, 9, 10, 11, 12, 13, 14, 15, 16, 17, 18, 19, 20, 21] sym (by kernel_rfl) ?_
  repeat (first | refine run_S ?_ | refine w_box (fun _ => ?_) | refine w_al (fun _ => ?_))
  refine sl_call rfl rfl rfl rfl rfl rfl (fun _ => (rAbs_ct (h2.1.rep.up uc sb) (h2.1.le sn (by omega))).settle) ?_
  rintro v Uh5 D hU ⟨rfl, _, _, ⟨xh5, rfl, h5, -⟩, -, -, hs⟩
  replace h5 := h5.sett hs
  clear hs
  repeat (first | refine run_S ?_ | refine w_box (fun _ => ?_) | refine w_al (fun _ => ?_))
  refine sl_call rfl rfl rfl rfl rfl rfl (fun _ => rCmp_ct (h5.rep.up uc sb) (h5.le sn.abs (by omega)) (h4.rep.up uc sb) (h4.le (s4) (by omega))) ?_
  rintro v U' D hU ⟨rfl, rfl, rfl⟩
  repeat (first | refine run_S ?_ | refine w_box (fun _ => ?_) | refine w_al (fun _ => ?_))
  refine sl_gdec rfl rfl (fun h => ?_) (fun hn6 => ?_)
  · repeat (first | refine run_S ?_ | refine w_box (fun _ => ?_) | refine w_al (fun _ => ?_))
    exact sk_ret [] sym rfl (.cons (.tmp rfl) .nil) uc sb (.inl rfl) rfl
  have hq1 : (q.num.natAbs : Int) ≤ most := by
    rcases Int.lt_or_le (most : Int) (q.num.natAbs : Int) with h | h
    · exact absurd (by rw [Int.sign_eq_one_of_pos (by omega)]; decide) hn6
    · exact h
  have hq0 : -(most : Int) ≤ q.num ∧ q.num ≤ most := abs_in hq1
  have hd1 : (1 : Int) ≤ q.den := hd0
  repeat (first | refine run_S ?_ | refine w_box (fun _ => ?_) | refine w_al (fun _ => ?_))
  refine sl_call rfl rfl rfl rfl rfl rfl (fun _ => rCmp_ct (h2.2.rep.up uc sb) (h2.2.le sd (by omega)) (h4.rep.up uc sb) (h4.le (s4) (by omega))) ?_
  rintro v U' D hU ⟨rfl, rfl, rfl⟩
  repeat (first | refine run_S ?_ | refine w_box (fun _ => ?_) | refine w_al (fun _ => ?_))
  refine sl_gdec rfl rfl (fun h => ?_) (fun hn7 => ?_)
  · repeat (first | refine run_S ?_ | refine w_box (fun _ => ?_) | refine w_al (fun _ => ?_))
    exact sk_ret [] sym rfl (.cons (.tmp rfl) .nil) uc sb (.inl rfl) rfl
  have hq2 : (q.den : Int) ≤ most := by
    rcases Int.lt_or_le (most : Int) (q.den : Int) with h | h
    · exact absurd (by rw [Int.sign_eq_one_of_pos (by omega)]; decide) hn7
    · exact h
  repeat (first | refine run_S ?_ | refine w_box (fun _ => ?_) | refine w_al (fun _ => ?_))
  refine sl_call rfl rfl rfl rfl rfl rfl (fun _ => (rGcd_ct (h2.2.rep.up uc sb) (h2.2.le sd (by omega)) (hm.up uc sb) (by omega)).settle) ?_
  rintro v Uh6 D hU ⟨rfl, _, _, ⟨xh6, rfl, h6, -⟩, -, -, hs⟩
  replace h6 := h6.sett hs
  clear hs
  repeat (first | refine run_S ?_ | refine w_box (fun _ => ?_) | refine w_al (fun _ => ?_))
  refine sl_call rfl rfl rfl rfl rfl rfl (fun _ => (rOf_ct (z := 1) (by decide) (by decide)).settle) ?_
  rintro v Uh7 D hU ⟨rfl, _, _, ⟨xh7, rfl, h7, -⟩, -, -, hs⟩
  replace h7 := h7.sett hs
  clear hs
  repeat (first | refine run_S ?_ | refine w_box (fun _ => ?_) | refine w_al (fun _ => ?_))
  refine sl_call rfl rfl rfl rfl rfl rfl (fun _ => rSame_cz (h6.up uc sb) (h7.up uc sb)) ?_
  rintro v U' D hU ⟨rfl, rfl, rfl⟩
  repeat (first | refine run_S ?_ | refine w_box (fun _ => ?_) | refine w_al (fun _ => ?_))
  by_cases hg : (Int.gcd (q.den : Int) zm : Int) = 1
  rotate_left
  · rw [decide_eq_false hg]
    repeat (first | refine run_S ?_ | refine w_box (fun _ => ?_) | refine w_al (fun _ => ?_))
    exact sk_ret [] sym rfl (.cons (.tmp rfl) .nil) uc sb (.inl rfl) rfl
  rw [decide_eq_true hg]
  have hg1 : Int.gcd (q.den : Int) zm = 1 := by omega
  repeat (first | refine run_S ?_ | refine w_box (fun _ => ?_) | refine w_al (fun _ => ?_))
  refine st_cutK (fun E U' M' => ∃ (b9 b10 : Nat) (x1 k1 : IV) (X K e : Int), x1.nrm U' [] X ∧ k1.nrm U' [] K ∧ Out (fun i => if i = 0 then 0 else 1) (fun i => if i = 0 then (q.den : Int) else zm) 2 X K e ∧ E = [(11, .int .i64 e), (10, .pointer (some ⟨b10, 0, none⟩)), (9, .pointer (some ⟨b9, 0, none⟩)), (7, .pointer (some ⟨b7, 0, none⟩)), (3, .pointer (some ⟨b3, 0, none⟩)), (4, .pointer (some ⟨b4, 0, none⟩)), (5, .pointer (some ⟨b5, 0, none⟩))] ∧ ULe Uh7 U' ∧ M' = (b10, .var k1.v, 24) :: (b9, .var x1.v, 24) :: (b7, .var xh2.v, 27) :: (b5, .var k.v, 24) :: (b4, .var m.v, 24) :: (b3, .var x.v, 27) :: M) ?_ ?_
  · refine st_drawTM [14, 15, 16] (.node 2 6 (.leaf [3, 4, 5, 0, 1, 2, 6, 7, 8, 9, 10, 11, 12, 13, 14, 15, 16]) (.node 1 6 (.leaf [3, 4, 5, 0, 1, 6, 2, 7, 8, 9, 10, 11, 12, 13, 14, 15, 16]) (.node 0 6 (.leaf [3, 4, 5, 0, 6, 1, 2, 7, 8, 9, 10, 11, 12, 13, 14, 15, 16]) (.leaf [3, 4, 5, 6, 0, 1, 2, 7, 8, 9, 10, 11, 12, 13, 14, 15, 16])))) sym (by kernel_rfl) (by kernel_rfl) (slTM_node (slTM_leaf ?_) (slTM_node (slTM_leaf ?_) (slTM_node (slTM_leaf ?_) (slTM_leaf ?_))))
    · repeat (first | refine run_S ?_ | refine w_box (fun _ => ?_) | refine w_al (fun _ => ?_))
      refine sl_call rfl rfl rfl rfl rfl rfl (fun _ => (rOf_ct (z := 0) (by decide) (by decide)).settle) ?_
      rintro v Uh8 D hU ⟨rfl, _, _, ⟨xh8, rfl, h8, -⟩, -, -, hs⟩
      replace h8 := h8.sett hs
      clear hs
      repeat (first | refine run_S ?_ | refine w_box (fun _ => ?_) | refine w_al (fun _ => ?_))
      refine sl_call rfl rfl rfl rfl rfl rfl (fun _ => (rOf_ct (z := 1) (by decide) (by decide)).settle) ?_
      rintro v Uh9 D hU ⟨rfl, _, _, ⟨xh9, rfl, h9, -⟩, -, -, hs⟩
      replace h9 := h9.sett hs
      clear hs
      repeat (first | refine run_S ?_ | refine w_box (fun _ => ?_) | refine w_al (fun _ => ?_))
      repeat (first | refine run_S ?_ | refine w_box (fun _ => ?_) | refine w_al (fun _ => ?_))
      refine sl_bslice (vs := [xh8.v, xh9.v]) sym rfl rfl rfl rfl rfl rfl (all_size rfl) rfl rfl rfl rfl rfl rfl (fun b77 => ?_)
      repeat (first | refine run_S ?_ | refine w_box (fun _ => ?_) | refine w_al (fun _ => ?_))
      refine sl_bslice (vs := [xh2.den.v, m.v]) sym rfl rfl rfl rfl rfl rfl (all_size rfl) rfl rfl rfl rfl rfl rfl (fun b81 => ?_)
      refine sl_call rfl rfl rfl rfl rfl rfl (fun _ => fChinese_ct (two_ints (e := 24) (s := 1) (b := b77) (h8.rep.up uc sb) (h9.rep.up uc sb) (h8.le s0 (by decide)) (h9.le s1 (by decide)) sb) (two_ints (e := 24) (s := 6) (b := b81) (h2.2.rep.up uc sb) (hm.up uc sb) (by omega) (by omega) sb) (by decide) (by decide) (by decide) (by decide)) ?_
      rintro v10 U10 D10 hU10 ⟨x1, k1, X, K, e, rfl, rfl, hX, hK, -, heq⟩
      try rw [List.nil_append]
      repeat (first | refine run_S ?_ | refine w_box (fun _ => ?_) | refine w_al (fun _ => ?_))
      rename_i b9 b10
      refine sk_anti (M' := (b10, .var k1.v, 24) :: (b9, .var x1.v, 24) :: (b7, .var xh2.v, 27) :: (b5, .var k.v, 24) :: (b4, .var m.v, 24) :: (b3, .var x.v, 27) :: M) (ULe.refl _) sbk ?_
      exact sk_cut (E' := [(11, .int .i64 e), (10, .pointer (some ⟨b10, 0, none⟩)), (9, .pointer (some ⟨b9, 0, none⟩)), (7, .pointer (some ⟨b7, 0, none⟩)), (3, .pointer (some ⟨b3, 0, none⟩)), (4, .pointer (some ⟨b4, 0, none⟩)), (5, .pointer (some ⟨b5, 0, none⟩))]) ⟨rfl, rfl, rfl, rfl, rfl, rfl, rfl, trivial⟩ ⟨b9, b10, x1, k1, X, K, e, hX, hK, heq rfl, rfl, uc, rfl⟩
    · repeat (first | refine run_S ?_ | refine w_box (fun _ => ?_) | refine w_al (fun _ => ?_))
      refine sl_call rfl rfl rfl rfl rfl rfl (fun _ => (rOf_ct (z := 0) (by decide) (by decide)).settle) ?_
      rintro v Uh8 D hU ⟨rfl, _, _, ⟨xh8, rfl, h8, -⟩, -, -, hs⟩
      replace h8 := h8.sett hs
      clear hs
      repeat (first | refine run_S ?_ | refine w_box (fun _ => ?_) | refine w_al (fun _ => ?_))
      refine sl_call rfl rfl rfl rfl rfl rfl (fun _ => (rOf_ct (z := 1) (by decide) (by decide)).settle) ?_
      rintro v Uh9 D hU ⟨rfl, _, _, ⟨xh9, rfl, h9, -⟩, -, -, hs⟩
      replace h9 := h9.sett hs
      clear hs
      repeat (first | refine run_S ?_ | refine w_box (fun _ => ?_) | refine w_al (fun _ => ?_))
      repeat (first | refine run_S ?_ | refine w_box (fun _ => ?_) | refine w_al (fun _ => ?_))
      refine sl_bslice (vs := [xh2.den.v, m.v]) sym rfl rfl rfl rfl rfl rfl (all_size rfl) rfl rfl rfl rfl rfl rfl (fun b81 => ?_)
      repeat (first | refine run_S ?_ | refine w_box (fun _ => ?_) | refine w_al (fun _ => ?_))
      refine sl_bslice (vs := [xh8.v, xh9.v]) sym rfl rfl rfl rfl rfl rfl (all_size rfl) rfl rfl rfl rfl rfl rfl (fun b77 => ?_)
      refine sl_call rfl rfl rfl rfl rfl rfl (fun _ => fChinese_ct (two_ints (e := 24) (s := 1) (b := b77) (h8.rep.up uc sb) (h9.rep.up uc sb) (h8.le s0 (by decide)) (h9.le s1 (by decide)) sb) (two_ints (e := 24) (s := 6) (b := b81) (h2.2.rep.up uc sb) (hm.up uc sb) (by omega) (by omega) sb) (by decide) (by decide) (by decide) (by decide)) ?_
      rintro v10 U10 D10 hU10 ⟨x1, k1, X, K, e, rfl, rfl, hX, hK, -, heq⟩
      try rw [List.nil_append]
      repeat (first | refine run_S ?_ | refine w_box (fun _ => ?_) | refine w_al (fun _ => ?_))
      rename_i b9 b10
      refine sk_anti (M' := (b10, .var k1.v, 24) :: (b9, .var x1.v, 24) :: (b7, .var xh2.v, 27) :: (b5, .var k.v, 24) :: (b4, .var m.v, 24) :: (b3, .var x.v, 27) :: M) (ULe.refl _) sbk ?_
      exact sk_cut (E' := [(11, .int .i64 e), (10, .pointer (some ⟨b10, 0, none⟩)), (9, .pointer (some ⟨b9, 0, none⟩)), (7, .pointer (some ⟨b7, 0, none⟩)), (3, .pointer (some ⟨b3, 0, none⟩)), (4, .pointer (some ⟨b4, 0, none⟩)), (5, .pointer (some ⟨b5, 0, none⟩))]) ⟨rfl, rfl, rfl, rfl, rfl, rfl, rfl, trivial⟩ ⟨b9, b10, x1, k1, X, K, e, hX, hK, heq rfl, rfl, uc, rfl⟩
    · repeat (first | refine run_S ?_ | refine w_box (fun _ => ?_) | refine w_al (fun _ => ?_))
      refine sl_call rfl rfl rfl rfl rfl rfl (fun _ => (rOf_ct (z := 0) (by decide) (by decide)).settle) ?_
      rintro v Uh8 D hU ⟨rfl, _, _, ⟨xh8, rfl, h8, -⟩, -, -, hs⟩
      replace h8 := h8.sett hs
      clear hs
      repeat (first | refine run_S ?_ | refine w_box (fun _ => ?_) | refine w_al (fun _ => ?_))
      repeat (first | refine run_S ?_ | refine w_box (fun _ => ?_) | refine w_al (fun _ => ?_))
      refine sl_bslice (vs := [xh2.den.v, m.v]) sym rfl rfl rfl rfl rfl rfl (all_size rfl) rfl rfl rfl rfl rfl rfl (fun b81 => ?_)
      refine sl_call rfl rfl rfl rfl rfl rfl (fun _ => (rOf_ct (z := 1) (by decide) (by decide)).settle) ?_
      rintro v Uh9 D hU ⟨rfl, _, _, ⟨xh9, rfl, h9, -⟩, -, -, hs⟩
      replace h9 := h9.sett hs
      clear hs
      repeat (first | refine run_S ?_ | refine w_box (fun _ => ?_) | refine w_al (fun _ => ?_))
      repeat (first | refine run_S ?_ | refine w_box (fun _ => ?_) | refine w_al (fun _ => ?_))
      refine sl_bslice (vs := [xh8.v, xh9.v]) sym rfl rfl rfl rfl rfl rfl (all_size rfl) rfl rfl rfl rfl rfl rfl (fun b77 => ?_)
      refine sl_call rfl rfl rfl rfl rfl rfl (fun _ => fChinese_ct (two_ints (e := 24) (s := 1) (b := b77) (h8.rep.up uc sb) (h9.rep.up uc sb) (h8.le s0 (by decide)) (h9.le s1 (by decide)) sb) (two_ints (e := 24) (s := 6) (b := b81) (h2.2.rep.up uc sb) (hm.up uc sb) (by omega) (by omega) sb) (by decide) (by decide) (by decide) (by decide)) ?_
      rintro v10 U10 D10 hU10 ⟨x1, k1, X, K, e, rfl, rfl, hX, hK, -, heq⟩
      try rw [List.nil_append]
      repeat (first | refine run_S ?_ | refine w_box (fun _ => ?_) | refine w_al (fun _ => ?_))
      rename_i b9 b10
      refine sk_anti (M' := (b10, .var k1.v, 24) :: (b9, .var x1.v, 24) :: (b7, .var xh2.v, 27) :: (b5, .var k.v, 24) :: (b4, .var m.v, 24) :: (b3, .var x.v, 27) :: M) (ULe.refl _) sbk ?_
      exact sk_cut (E' := [(11, .int .i64 e), (10, .pointer (some ⟨b10, 0, none⟩)), (9, .pointer (some ⟨b9, 0, none⟩)), (7, .pointer (some ⟨b7, 0, none⟩)), (3, .pointer (some ⟨b3, 0, none⟩)), (4, .pointer (some ⟨b4, 0, none⟩)), (5, .pointer (some ⟨b5, 0, none⟩))]) ⟨rfl, rfl, rfl, rfl, rfl, rfl, rfl, trivial⟩ ⟨b9, b10, x1, k1, X, K, e, hX, hK, heq rfl, rfl, uc, rfl⟩
    · repeat (first | refine run_S ?_ | refine w_box (fun _ => ?_) | refine w_al (fun _ => ?_))
      repeat (first | refine run_S ?_ | refine w_box (fun _ => ?_) | refine w_al (fun _ => ?_))
      refine sl_bslice (vs := [xh2.den.v, m.v]) sym rfl rfl rfl rfl rfl rfl (all_size rfl) rfl rfl rfl rfl rfl rfl (fun b81 => ?_)
      refine sl_call rfl rfl rfl rfl rfl rfl (fun _ => (rOf_ct (z := 0) (by decide) (by decide)).settle) ?_
      rintro v Uh8 D hU ⟨rfl, _, _, ⟨xh8, rfl, h8, -⟩, -, -, hs⟩
      replace h8 := h8.sett hs
      clear hs
      repeat (first | refine run_S ?_ | refine w_box (fun _ => ?_) | refine w_al (fun _ => ?_))
      refine sl_call rfl rfl rfl rfl rfl rfl (fun _ => (rOf_ct (z := 1) (by decide) (by decide)).settle) ?_
      rintro v Uh9 D hU ⟨rfl, _, _, ⟨xh9, rfl, h9, -⟩, -, -, hs⟩
      replace h9 := h9.sett hs
      clear hs
      repeat (first | refine run_S ?_ | refine w_box (fun _ => ?_) | refine w_al (fun _ => ?_))
      repeat (first | refine run_S ?_ | refine w_box (fun _ => ?_) | refine w_al (fun _ => ?_))
      refine sl_bslice (vs := [xh8.v, xh9.v]) sym rfl rfl rfl rfl rfl rfl (all_size rfl) rfl rfl rfl rfl rfl rfl (fun b77 => ?_)
      refine sl_call rfl rfl rfl rfl rfl rfl (fun _ => fChinese_ct (two_ints (e := 24) (s := 1) (b := b77) (h8.rep.up uc sb) (h9.rep.up uc sb) (h8.le s0 (by decide)) (h9.le s1 (by decide)) sb) (two_ints (e := 24) (s := 6) (b := b81) (h2.2.rep.up uc sb) (hm.up uc sb) (by omega) (by omega) sb) (by decide) (by decide) (by decide) (by decide)) ?_
      rintro v10 U10 D10 hU10 ⟨x1, k1, X, K, e, rfl, rfl, hX, hK, -, heq⟩
      try rw [List.nil_append]
      repeat (first | refine run_S ?_ | refine w_box (fun _ => ?_) | refine w_al (fun _ => ?_))
      rename_i b9 b10
      refine sk_anti (M' := (b10, .var k1.v, 24) :: (b9, .var x1.v, 24) :: (b7, .var xh2.v, 27) :: (b5, .var k.v, 24) :: (b4, .var m.v, 24) :: (b3, .var x.v, 27) :: M) (ULe.refl _) sbk ?_
      exact sk_cut (E' := [(11, .int .i64 e), (10, .pointer (some ⟨b10, 0, none⟩)), (9, .pointer (some ⟨b9, 0, none⟩)), (7, .pointer (some ⟨b7, 0, none⟩)), (3, .pointer (some ⟨b3, 0, none⟩)), (4, .pointer (some ⟨b4, 0, none⟩)), (5, .pointer (some ⟨b5, 0, none⟩))]) ⟨rfl, rfl, rfl, rfl, rfl, rfl, rfl, trivial⟩ ⟨b9, b10, x1, k1, X, K, e, hX, hK, heq rfl, rfl, uc, rfl⟩
  rintro E U10 M' ⟨b9, b10, x1, k1, X, K, e, hX, hK, heq, rfl, hU10, rfl⟩
  try refine run_s ?_
  obtain ⟨rfl, g1, g2, rfl, g3, g4⟩ := out_two (by omega) (by omega) (by omega) heq
  have sK : Sz ((q.den : Int) * zm) 9 := sd.mul sm
  have sX : Sz X 9 := sz_le sK (by omega)
  refine st_drawM [1, 8, 9, 10] [0, 1, 2, 3, 4, 5, 6, 7, 8, 9, 10] sym (by kernel_rfl) ?_
  repeat (first | refine run_S ?_ | refine w_box (fun _ => ?_) | refine w_al (fun _ => ?_))
  refine sl_gdec rfl rfl (fun h => absurd rfl h) (fun _ => ?_)
  repeat (first | refine run_S ?_ | refine w_box (fun _ => ?_) | refine w_al (fun _ => ?_))
  refine sl_call rfl rfl rfl rfl rfl rfl (fun _ => (rMul_ct (h2.2.rep.up uc sb) (h2.2.le sd (by omega)) (hm.up uc sb) (by omega)).settle) ?_
  rintro v Uh11 D hU ⟨rfl, _, _, ⟨xh11, rfl, h11, -⟩, -, -, hs⟩
  replace h11 := h11.sett hs
  clear hs
  repeat (first | refine run_S ?_ | refine w_box (fun _ => ?_) | refine w_al (fun _ => ?_))
  refine sl_call rfl rfl rfl rfl rfl rfl (fun _ => rSame_cz (hK.up uc sb) (h11.up uc sb)) ?_
  rintro v U' D hU ⟨rfl, rfl, rfl⟩
  repeat (first | refine run_S ?_ | refine w_box (fun _ => ?_) | refine w_al (fun _ => ?_))
  rw [decide_eq_true rfl]
  repeat (first | refine run_S ?_ | refine w_box (fun _ => ?_) | refine w_al (fun _ => ?_))
  refine st_drawM [12] [0, 1, 2, 4, 5, 7, 8, 3, 6, 9, 10, 11, 12] sym (by kernel_rfl) ?_
  repeat (first | refine run_S ?_ | refine w_box (fun _ => ?_) | refine w_al (fun _ => ?_))
  refine sl_call rfl rfl rfl rfl rfl rfl (fun _ => (rDivided_ct (hX.rep.up uc sb) (hX.le (sX) (by omega)) (h2.2.rep.up uc sb) (h2.2.le sd (by omega)) (by omega)).settle) ?_
  rintro v Uh12 D hU ⟨rfl, _, _, ⟨xh12, rfl, h12, -⟩, -, -, hs⟩
  replace h12 := h12.sett hs
  clear hs
  repeat (first | refine run_S ?_ | refine w_box (fun _ => ?_) | refine w_al (fun _ => ?_))
  have s12 : Sz (X / (q.den : Int)) 9 := sz_le sX (by
    have := Int.ediv_le_self (q.den : Int) g1
    have := Int.ediv_nonneg g1 (show (0 : Int) ≤ q.den by omega)
    omega)
  refine sl_call rfl rfl rfl rfl rfl rfl (fun _ => (rMul_ct (h12.rep.up uc sb) (h12.le (s12) (by omega)) (h2.1.rep.up uc sb) (h2.1.le sn (by omega))).settle) ?_
  rintro v Uh13 D hU ⟨rfl, _, _, ⟨xh13, rfl, h13, -⟩, -, -, hs⟩
  replace h13 := h13.sett hs
  clear hs
  repeat (first | refine run_S ?_ | refine w_box (fun _ => ?_) | refine w_al (fun _ => ?_))
  refine sl_call rfl rfl rfl rfl rfl rfl (fun _ => (rMul_ct (hk.up uc sb) (by omega) (hm.up uc sb) (by omega)).settle) ?_
  rintro v Uh14 D hU ⟨rfl, _, _, ⟨xh14, rfl, h14, -⟩, -, -, hs⟩
  replace h14 := h14.sett hs
  clear hs
  repeat (first | refine run_S ?_ | refine w_box (fun _ => ?_) | refine w_al (fun _ => ?_))
  have s13 : Sz (X / (q.den : Int) * q.num) 12 := s12.mul sn
  have s14 : Sz (zk * zm) 12 := sk.mul sm
  refine sl_call rfl rfl rfl rfl rfl rfl (fun _ => (rAdd_ct (h13.rep.up uc sb) (h13.le (s13) (by omega)) (h14.rep.up uc sb) (h14.le (s14) (by omega))).settle) ?_
  rintro v Uh15 D hU ⟨rfl, _, _, ⟨xh15, rfl, h15, -⟩, -, -, hs⟩
  replace h15 := h15.sett hs
  clear hs
  repeat (first | refine run_S ?_ | refine w_box (fun _ => ?_) | refine w_al (fun _ => ?_))
  have s15 := s13.add s14
  refine sl_call rfl rfl rfl rfl rfl rfl (fun _ => fRecon_ct (h15.rep.up uc (List.Sublist.refl _)) (h15.le s15 (by omega)) (hm.up uc (List.Sublist.refl _)) (by omega)) ?_
  rintro v16 U16 D16 hU16 ⟨r, b, e, rfl, rfl, -, h16⟩
  try rw [List.nil_append]
  repeat (first | refine run_S ?_ | refine w_box (fun _ => ?_) | refine w_al (fun _ => ?_))
  obtain ⟨rfl, most2, hS1, hS2, h17⟩ := h16 hm2
  obtain rfl : most = most2 := root_uniq hR1 hR2 hS1 hS2
  have hres := frac_res (n := q.num) (k := zk) g3 g4
  have hz : b = true ∧ r.nrm U16 [] q := by
    rcases h17 with ⟨-, -, h8⟩ | ⟨hb, n, d, k1, k2, k3, k4, k5, k6, k7⟩
    · exact absurd hg1 (h8 q.num (q.den : Int) hd1 hq2 hq0.1 hq0.2 hres)
    · obtain ⟨n', d', j1, j2, j3, j4, j5, j6, j7⟩ := recon_pos k1 k2 k3 k4 k5 k6
      refine ⟨hb, ?_⟩
      rw [j7, recon_same hR1 hm2 j1 j2 j3 j4 j6 hd1 hq2 hq0.1 hq0.2 hres, rat_self] at k7
      exact k7
  obtain ⟨rfl, hr⟩ := hz
  repeat (first | refine run_S ?_ | refine w_box (fun _ => ?_) | refine w_al (fun _ => ?_))
  refine sl_gdec rfl rfl (fun _ => ?_) (fun h => absurd rfl h)
  repeat (first | refine run_S ?_ | refine w_box (fun _ => ?_) | refine w_al (fun _ => ?_))
  refine sl_call rfl rfl rfl rfl rfl rfl (fun _ => rqSame_ct (hr.up uc sb) (h2.up uc sb)) ?_
  rintro v U' D hU ⟨rfl, rfl, rfl⟩
  repeat (first | refine run_S ?_ | refine w_box (fun _ => ?_) | refine w_al (fun _ => ?_))
  rw [decide_eq_true rfl]
  repeat (first | refine run_S ?_ | refine w_box (fun _ => ?_) | refine w_al (fun _ => ?_))
  exact sk_ret [] sym rfl (.cons (.tmp rfl) .nil) uc sb (.inl rfl) rfl
end Go.Proofs.Ytpigpikhjlmdoaa
