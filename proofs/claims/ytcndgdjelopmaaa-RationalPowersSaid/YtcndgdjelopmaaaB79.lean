/- Walks of rational and its reference: powers. -/
import Derived.Test.YtcndgdjelopmaaaB75
import Derived.Test.YtcndgdjelopmaaaM8
namespace Go.Proofs.Ytcndgdjelopmaaa
open Go.Hp
variable {G : World} {U : UH} {M : MH}

/-! ### the plain law -/
theorem rat_pow_add (q : Rat) (m n : Nat) : q ^ (m + n) = q ^ m * q ^ n := by
  induction n with
  | zero => rw [Nat.add_zero, Rat.pow_zero, Rat.mul_one]
  | succ n ih => rw [← Nat.add_assoc, Rat.pow_succ, ih, Rat.pow_succ, Rat.mul_assoc]
theorem szq_inv {q : Rat} {k : Nat} (h : Szq q k) : Szq q⁻¹ k := by
  have := szq_div (n := (q.den : Int)) (d := q.num) h.2 h.1 h.pos
  rwa [← Rat.inv_def] at this
theorem blen_one {n : Nat} : blen n ≤ 1 ↔ n ≤ 1 := by
  constructor
  · intro h
    have := blen_lt n
    have h2 : 2 ^ blen n ≤ 2 ^ 1 := Nat.pow_le_pow_right (by decide) h
    omega
  · intro h
    exact blen_le_of (k := 1) (by omega)
theorem qbl_one {q : Rat} : qbl q ≤ 1 ↔ q.num.natAbs ≤ 1 ∧ q.den = 1 := by
  unfold qbl
  rw [Nat.max_le, blen_one, blen_one]
  have := q.den_pos
  omega
theorem one_pow' (n : Int) : (1 : Rat) ^ n = 1 := by
  have h : ∀ k : Nat, (1 : Rat) ^ k = 1 := fun k => Rat.ext (by rw [Rat.num_pow]; exact Int.one_pow) (by rw [Rat.den_pow]; exact Nat.one_pow _)
  rcases Int.le_total 0 n with h1 | h1
  · obtain ⟨k, rfl⟩ := Int.eq_ofNat_of_zero_le h1
    rw [Rat.zpow_natCast, h]
  · obtain ⟨k, hk⟩ := Int.eq_ofNat_of_zero_le (a := -n) (by omega)
    rw [show n = -(k : Int) by omega, Rat.zpow_neg, Rat.zpow_natCast, h]; grind
theorem mone_pow (n : Int) : (-1 : Rat) ^ n = if n % 2 = 0 then 1 else -1 := by
  have h : ∀ k : Nat, (-1 : Rat) ^ k = if k % 2 = 0 then 1 else -1 := by
    intro k
    induction k with
    | zero => rw [Rat.pow_zero]; rfl
    | succ k ih =>
      rw [Rat.pow_succ, ih]
      by_cases e : k % 2 = 0
      · rw [if_pos e, if_neg (by omega)]; grind
      · rw [if_neg e, if_pos (by omega)]; grind
  rcases Int.le_total 0 n with h1 | h1
  · obtain ⟨k, rfl⟩ := Int.eq_ofNat_of_zero_le h1
    rw [Rat.zpow_natCast, h]
    by_cases e : k % 2 = 0
    · rw [if_pos e, if_pos (by omega)]
    · rw [if_neg e, if_neg (by omega)]
  · obtain ⟨k, hk⟩ := Int.eq_ofNat_of_zero_le (a := -n) (by omega)
    rw [show n = -(k : Int) by omega, Rat.zpow_neg, Rat.zpow_natCast, h]
    by_cases e : k % 2 = 0
    · rw [if_pos e, if_pos (by omega)]; grind
    · rw [if_neg e, if_neg (by omega)]; grind
theorem zero_pow' {n : Int} (h : 0 ≤ n) : (0 : Rat) ^ n = if n = 0 then 1 else 0 := by
  obtain ⟨k, rfl⟩ := Int.eq_ofNat_of_zero_le h
  rw [Rat.zpow_natCast]
  cases k with
  | zero => rw [Rat.pow_zero]; rfl
  | succ k => rw [Rat.pow_succ, Rat.mul_zero, if_neg (by omega)]
theorem plain_cases {q : Rat} (h : qbl q ≤ 1) : q = 0 ∨ q = 1 ∨ q = -1 := by
  obtain ⟨h1, h2⟩ := qbl_one.1 h
  have e := rat_eq_num h2
  rcases show q.num = 0 ∨ q.num = 1 ∨ q.num = -1 by omega with h3 | h3 | h3
  · left; rw [e, h3]; rfl
  · right; left; rw [e, h3]; rfl
  · right; right; rw [e, h3]; rfl

/-- Too great a power. -/
def Big (q : Rat) (n : Int) : Prop := 1 < qbl q ∧ 1048576 / qbl q < n.natAbs

theorem qpow_div {q : Rat} {n : Int} : q ^ n = if n < 0 then Rat.divInt ((q.den : Int) ^ n.natAbs) (q.num ^ n.natAbs) else Rat.divInt (q.num ^ n.natAbs) ((q.den : Int) ^ n.natAbs) := by
  by_cases h : n < 0
  · rw [if_pos h]
    obtain ⟨k, hk⟩ := Int.eq_ofNat_of_zero_le (a := -n) (by omega)
    rw [show n = -(k : Int) by omega, Rat.zpow_neg, Rat.zpow_natCast, Rat.inv_def]
    simp
  · rw [if_neg h]
    obtain ⟨k, rfl⟩ := Int.eq_ofNat_of_zero_le (a := n) (by omega)
    rw [Rat.zpow_natCast, Int.natAbs_natCast, ← rat_self (q ^ k)]
    simp

theorem szq_pow {q : Rat} {n : Int} {K : Nat} (h : qbl q * n.natAbs ≤ 32 * K) : Szq (q ^ n) (K + 1) := by
  have a : blen q.num.natAbs ≤ qbl q := Nat.le_max_left _ _
  have b : blen (q.den : Int).natAbs ≤ qbl q := Nat.le_max_right _ _
  have s1 := sz_pow (z := q.num) (j := n.natAbs) (n := n.natAbs) (K := K) rfl (Nat.le_refl _) (Nat.le_trans (Nat.mul_le_mul_right _ a) h)
  have s2 := sz_pow (z := (q.den : Int)) (j := n.natAbs) (n := n.natAbs) (K := K) rfl (Nat.le_refl _) (Nat.le_trans (Nat.mul_le_mul_right _ b) h)
  rw [qpow_div]
  split
  · exact szq_div s2 s1 (by omega)
  · exact szq_div s1 s2 (by omega)

theorem qbl_le {q : Rat} {k : Nat} (h : Szq q k) : qbl q ≤ 32 * k := by
  unfold qbl
  have e : (4294967296 : Nat) ^ k = 2 ^ (32 * k) := by rw [Nat.pow_mul]
  refine Nat.max_le.2 ⟨blen_le_of ?_, blen_le_of ?_⟩
  · rw [← e]; exact h.1
  · rw [← e]; have := h.2; unfold Sz at this; rwa [Int.natAbs_natCast] at this

theorem nrm_len_zero {x : IV} {z : Int} (h : x.nrm U M z) : x.n = 0 ↔ z = 0 := by
  obtain ⟨l, hd, hc, hv, -⟩ := h
  rw [← hd.len, List.length_eq_zero_iff, ← hc.zero, hv]
  omega

theorem mul_div_le' (b s : Nat) (n : Nat) (hs : 0 < s) (h : n ≤ 1048576 / s) (hb : b ≤ s) : b * n ≤ 1048576 := by
  have h1 : s * n ≤ s * (1048576 / s) := Nat.mul_le_mul_left _ h
  have h2 : s * (1048576 / s) ≤ 1048576 := Nat.mul_div_le _ _
  have h3 : b * n ≤ s * n := Nat.mul_le_mul_right _ hb
  omega

theorem not_big_part {b s n : Nat} (hs : 1 < s) (h : n ≤ 1048576 / s) (hb : b ≤ s) : ¬ (1 < b ∧ 1048576 / b < n) := by
  rintro ⟨h1, h2⟩
  have : 1048576 / s ≤ 1048576 / b := Nat.div_le_div_left hb (by omega)
  omega

theorem qPow_ct {x : QV} {q : Rat} {n : Int} (hx : x.rep U M q) (hn : x.le 1000000) (h0 : -9223372036854775808 ≤ n) (h1 : n ≤ 9223372036854775807) :
    Ct Try.prog 56 [x.v, .int .i64 n] G U M fun v U' D => ∃ (r : QV) (e : Int), v = .tuple #[r.v, .int .i64 e] ∧ (n < 0 ∧ q = 0 → e = 5 ∧ r = zeroQV) ∧
      (¬ (n < 0 ∧ q = 0) → Big q n → e = 7 ∧ r = zeroQV) ∧ (¬ (n < 0 ∧ q = 0) → ¬ Big q n → e = 0 ∧ r.nrm U' [] (q ^ n)) ∧ D = [] := by
  have s1 := hx.sz hn (by decide)
  have hs := qbl_le s1
  have hbn : blen q.num.natAbs ≤ qbl q := Nat.le_max_left _ _
  have hbd : blen (q.den : Int).natAbs ≤ qbl q := Nat.le_max_right _ _
  refine ct_of_st Try.func56 rfl rfl rfl rfl ?_
  repeat (first | refine run_S ?_ | refine w_box (fun _ => ?_) | refine w_al (fun _ => ?_))
  rename_i b2 b4
  refine sl_call rfl rfl rfl rfl rfl rfl (fun _ => (qNormal_ct (hx.up uc sb) (by omega)).settle) ?_
  rintro v Uh2 D hU ⟨rfl, _, _, ⟨xh2, rfl, h2, -⟩, -, -, hs⟩
  replace h2 := h2.sett hs
  clear hs
  repeat (first | refine run_O ?_ | refine w_box (fun _ => ?_) | refine w_al (fun _ => ?_))
  refine st_seq_cut (fun E U' M' => ¬ (n < 0 ∧ q = 0) ∧ E = [(1, .int .i64 n), (2, .pointer (some ⟨b2, 0, none⟩)), (4, .pointer (some ⟨b4, 0, none⟩))] ∧ ULe Uh2 U' ∧ M' = (b4, .var zeroQV.v, 26) :: (b2, .var xh2.v, 26) :: M) ?_ ?_
  · have hz := nrm_len_zero h2.1
    try refine run_s ?_
    refine sl_gdec rfl rfl (fun h3 => ?_) (fun h3 => ?_)
    · try refine run_s ?_
      refine st_eq rfl (fun h4 => ?_) (fun h4 => ?_)
      · have hq : n < 0 ∧ q = 0 := ⟨h3, rat_num_zero.1 (hz.1 (by omega))⟩
        repeat (first | refine run_S ?_ | refine w_box (fun _ => ?_) | refine w_al (fun _ => ?_))
        exact sk_ret [] sym rfl (.cons (.cell 0 rfl rfl rfl) (.cons (.tmp rfl) .nil)) uc sb (.inl rfl) ⟨zeroQV, 5, rfl, fun _ => ⟨rfl, rfl⟩, fun h => absurd hq h, fun h => absurd hq h, rfl⟩
      · repeat (first | refine run_S ?_ | refine w_box (fun _ => ?_) | refine w_al (fun _ => ?_))
        exact sk_cut (E' := [(1, .int .i64 n), (2, .pointer (some ⟨b2, 0, none⟩)), (4, .pointer (some ⟨b4, 0, none⟩))]) ⟨rfl, rfl, rfl, trivial⟩ ⟨fun h => h4 (by have := hz.2 (by rw [h.2]; rfl); omega), rfl, uc, rfl⟩
    · repeat (first | refine run_S ?_ | refine w_box (fun _ => ?_) | refine w_al (fun _ => ?_))
      exact sk_cut (E' := [(1, .int .i64 n), (2, .pointer (some ⟨b2, 0, none⟩)), (4, .pointer (some ⟨b4, 0, none⟩))]) ⟨rfl, rfl, rfl, trivial⟩ ⟨fun h => h3 h.1, rfl, uc, rfl⟩
  · rintro E U' M' ⟨hok, rfl, hU2, rfl⟩
    repeat (first | refine run_S ?_ | refine w_box (fun _ => ?_) | refine w_al (fun _ => ?_))
    refine sl_call rfl rfl rfl rfl rfl rfl (fun _ => qBits_ct (h2.rep.up uc sb) (h2.le (s1) (by omega))) ?_
    rintro v _ D hU ⟨rfl, -, rfl⟩
    repeat (first | refine run_S ?_ | refine w_box (fun _ => ?_) | refine w_al (fun _ => ?_))
    refine st_dec rfl (fun h3 => ?_) (fun h3 => ?_)
    · have hpl := plain_cases (q := q) (by omega)
      have hbig : ¬ Big q n := fun h => by have := h.1; omega
      obtain ⟨hn1, hd1⟩ := qbl_one.1 (show qbl q ≤ 1 by omega)
      refine st_seq ?_
      repeat (first | refine run_O ?_ | refine w_box (fun _ => ?_) | refine w_al (fun _ => ?_))
      refine st_seq_cut (fun E U'' M' => ∃ m : Int, (n = 0 → m = 0) ∧ (n ≠ 0 → m = 2 + n.tmod 2) ∧ E = [(7, .int .i64 m), (2, .pointer (some ⟨b2, 0, none⟩)), (4, .pointer (some ⟨b4, 0, none⟩))] ∧ ULe U' U'' ∧ M' = (b4, .var zeroQV.v, 26) :: (b2, .var xh2.v, 26) :: M) ?_ ?_
      · try refine run_s ?_
        refine st_ne rfl (fun h4 => ?_) (fun h4 => ?_)
        · have ht := Int.tmod_two_eq n
          try refine run_s ?_
          exact sk_cut (E' := [(7, .int .i64 (2 + n.tmod 2)), (2, .pointer (some ⟨b2, 0, none⟩)), (4, .pointer (some ⟨b4, 0, none⟩))]) ⟨rfl, rfl, rfl, trivial⟩ ⟨_, fun h => absurd h h4, fun _ => rfl, rfl, uc, rfl⟩
        · try refine run_s ?_
          exact sk_cut (E' := [(7, .int .i64 0), (2, .pointer (some ⟨b2, 0, none⟩)), (4, .pointer (some ⟨b4, 0, none⟩))]) ⟨rfl, rfl, rfl, trivial⟩ ⟨0, fun _ => rfl, fun h => absurd h4 h, rfl, uc, rfl⟩
      · rintro E U'' M' ⟨m, hm0, hm1, rfl, hU3, rfl⟩
        have ht := Int.tmod_two_eq n
        have hmr : 0 ≤ m ∧ m ≤ 3 := by
          by_cases e : n = 0
          · rw [hm0 e]; decide
          · rw [hm1 e]; omega
        have hbl1 : blen q.num.natAbs ≤ 1 := blen_one.2 hn1
        repeat (first | refine run_S ?_ | refine w_box (fun _ => ?_) | refine w_al (fun _ => ?_))
        refine sl_call rfl rfl rfl rfl rfl rfl (fun _ => (Pow_ct (n := m) (h2.1.rep.up uc sb) (h2.1.le s1.1 (by omega)) (by omega) (by omega)).settle) ?_
        rintro v U5 D hU ⟨rfl, _, _, ⟨r5, e5, rfl, -, -, h5, -⟩, -, -, hs5⟩
        obtain ⟨rfl, h5o⟩ := h5 hmr.1 (fun h => by omega)
        replace h5o := h5o.sett hs5
        have spow : Sz (q.num ^ m.toNat) 2 := by
          have := sz_pow (z := q.num) (j := m.toNat) (n := 3) (K := 1) rfl (by omega) (by omega)
          exact this
        repeat (first | refine run_S ?_ | refine w_box (fun _ => ?_) | refine w_al (fun _ => ?_))
        refine sl_call rfl rfl rfl rfl rfl rfl (fun _ => (qWhole_ct (h5o.rep.up uc sb) (h5o.le (spow) (by omega))).settle) ?_
        rintro v Uh6 D hU ⟨rfl, _, _, ⟨xh6, rfl, h6, -⟩, -, -, hs⟩
        replace h6 := h6.sett hs
        clear hs
        repeat (first | refine run_S ?_ | refine w_box (fun _ => ?_) | refine w_al (fun _ => ?_))
        have hval : ((q.num ^ m.toNat : Int) : Rat) = q ^ n := by
          rcases hpl with rfl | rfl | rfl
          · have hn0 : 0 ≤ n := by
              by_cases h : n < 0
              · exact absurd ⟨h, rfl⟩ hok
              · omega
            rw [zero_pow' hn0]
            by_cases e : n = 0
            · rw [if_pos e, hm0 e]; rfl
            · rw [if_neg e]
              obtain ⟨k, hk⟩ : ∃ k, m.toNat = k + 1 := ⟨m.toNat - 1, by have := hm1 e; omega⟩
              rw [hk, Rat.zero_num, Int.pow_succ, Int.mul_zero]; rfl
          · rw [one_pow', Rat.one_num, Int.one_pow]; rfl
          · rw [mone_pow]
            have e1 : (-1 : Rat).num = -1 := rfl
            rw [e1]
            have hmm : (m.toNat : Int) = m := by omega
            have e2 : ((-1 : Int) ^ m.toNat : Int) = if n % 2 = 0 then 1 else -1 := by
              by_cases e : n = 0
              · rw [hm0 e, e]; rfl
              · have h7 := hm1 e
                have h8 := Int.tmod_eq_emod (a := n) (b := 2)
                have : m.toNat = 1 ∨ m.toNat = 2 ∨ m.toNat = 3 := by omega
                have hpar : n % 2 = m % 2 := by
                  rw [h7]
                  have := Int.tdiv_mul_add_tmod n 2
                  omega
                rcases this with h9 | h9 | h9
                · rw [h9, if_neg (by omega)]; rfl
                · rw [h9, if_pos (by omega)]; rfl
                · rw [h9, if_neg (by omega)]; rfl
            rw [e2]
            split <;> rfl
        rw [hval] at h6
        exact sk_ret [] sym rfl (.cons (.cell 1 rfl rfl rfl) (.cons (.tmp rfl) .nil)) uc sb (.inl rfl) ⟨xh6, 0, rfl, fun h => absurd h hok, fun _ h => absurd h hbig, fun _ _ => ⟨rfl, h6⟩, rfl⟩
    · generalize hS : qbl q = s at *
      have hs1 : 1 < s := by omega
      have hq : 1048576 / s ≤ 1048576 := Nat.div_le_self _ _
      have hneg : ∀ z : Int, -1048576 ≤ z → z ≤ 1048576 → IntKind.i64.wrap (0 - z) = -z := fun z a b => by rw [IntWalk.i64_in _ (by omega)]; omega
      repeat (first | refine run_S ?_ | refine w_box (fun _ => ?_) | refine w_al (fun _ => ?_))
      refine sl_y (yl_quoN (m := 1048576) (n := s) rfl rfl rfl rfl rfl (by simp only [kmax]; omega) (by omega) rfl) rfl rfl rfl rfl ?_
      generalize hQ : 1048576 / s = Q at *
      repeat (first | refine run_S ?_ | refine w_box (fun _ => ?_) | refine w_al (fun _ => ?_))
      refine sl_gdec rfl rfl (fun h4 => ?_) (fun h4 => ?_)
      · have hbig : Big q n := ⟨by omega, by rw [hS, hQ]; omega⟩
        repeat (first | refine run_S ?_ | refine w_box (fun _ => ?_) | refine w_al (fun _ => ?_))
        exact sk_ret [] sym rfl (.cons (.cell 0 rfl rfl rfl) (.cons (.tmp rfl) .nil)) uc sb (.inl rfl) ⟨zeroQV, 7, rfl, fun h => absurd h hok, fun _ _ => ⟨rfl, rfl⟩, fun _ h => absurd hbig h, rfl⟩
      repeat (first | refine run_S ?_ | refine w_box (fun _ => ?_) | refine w_al (fun _ => ?_))
      refine sl_y (yl_quoN (m := 1048576) (n := s) rfl rfl rfl rfl rfl (by simp only [kmax]; omega) (by omega) hQ) rfl rfl rfl rfl ?_
      repeat (first | refine run_S ?_ | refine w_box (fun _ => ?_) | refine w_al (fun _ => ?_))
      rw [hneg (Q : Int) (by omega) (by omega)]
      refine st_dec rfl (fun h5 => ?_) (fun h5 => ?_)
      · have hbig : Big q n := ⟨by omega, by rw [hS, hQ]; omega⟩
        repeat (first | refine run_S ?_ | refine w_box (fun _ => ?_) | refine w_al (fun _ => ?_))
        exact sk_ret [] sym rfl (.cons (.cell 0 rfl rfl rfl) (.cons (.tmp rfl) .nil)) uc sb (.inl rfl) ⟨zeroQV, 7, rfl, fun h => absurd h hok, fun _ _ => ⟨rfl, rfl⟩, fun _ h => absurd hbig h, rfl⟩
      have hle : n.natAbs ≤ 1048576 / s := by rw [hQ]; omega
      have hbig : ¬ Big q n := fun h => by have := h.2; rw [hS, hQ] at this; omega
      have hmax : (if IntKind.i64.wrap (0 - n) > n then IntKind.i64.wrap (0 - n) else n) = (n.natAbs : Int) := by
        rw [hneg n (by omega) (by omega)]; split <;> omega
      have w1 := mul_div_le' (blen q.num.natAbs) s n.natAbs (by omega) hle hbn
      have w2 := mul_div_le' (blen (q.den : Int).natAbs) s n.natAbs (by omega) hle hbd
      have p1 : Sz (q.num ^ n.natAbs) 32769 := sz_pow (K := 32768) rfl (Nat.le_refl _) w1
      have p2 : Sz ((q.den : Int) ^ n.natAbs) 32769 := sz_pow (K := 32768) rfl (Nat.le_refl _) w2
      repeat (first | refine run_S ?_ | refine w_box (fun _ => ?_) | refine w_al (fun _ => ?_))
      rw [hmax]
      refine sl_call rfl rfl rfl rfl rfl rfl (fun _ => (Pow_ct (n := (n.natAbs : Int)) (h2.1.rep.up uc sb) (h2.1.le s1.1 (by omega)) (by omega) (by omega)).settle) ?_
      rintro v U5 D hU ⟨rfl, _, _, ⟨r5, e5, rfl, -, -, h6, -⟩, -, -, hs5⟩
      rw [Int.toNat_natCast] at h6
      obtain ⟨rfl, h6o⟩ := h6 (by omega) (not_big_part hs1 hle hbn)
      replace h6o := h6o.sett hs5
      repeat (first | refine run_S ?_ | refine w_box (fun _ => ?_) | refine w_al (fun _ => ?_))
      rename_i b10
      rw [hmax]
      refine sl_call rfl rfl rfl rfl rfl rfl (fun _ => (Pow_ct (n := (n.natAbs : Int)) (h2.2.rep.up uc sb) (h2.2.le s1.2 (by omega)) (by omega) (by omega)).settle) ?_
      rintro v U6 D hU6 ⟨rfl, _, _, ⟨r6, e6, rfl, -, -, h7, -⟩, -, -, hs6⟩
      rw [Int.toNat_natCast] at h7
      obtain ⟨rfl, h7o⟩ := h7 (by omega) (not_big_part hs1 hle hbd)
      replace h7o := h7o.sett hs6
      repeat (first | refine run_O ?_ | refine w_box (fun _ => ?_) | refine w_al (fun _ => ?_))
      rename_i b12
      refine st_seq_cut (fun E U' M' => ∃ (X Y : Int) (x y : IV), x.nrm U6 [] X ∧ y.nrm U6 [] Y ∧ Sz X 32769 ∧ Sz Y 32769 ∧ q ^ n = Rat.divInt X Y ∧
        E = [(10, .pointer (some ⟨b10, 0, none⟩)), (12, .pointer (some ⟨b12, 0, none⟩)), (2, .pointer (some ⟨b2, 0, none⟩)), (4, .pointer (some ⟨b4, 0, none⟩))] ∧ ULe U6 U' ∧
        M' = (b12, .var y.v, 24) :: (b10, .var x.v, 24) :: (b4, .var zeroQV.v, 26) :: (b2, .var xh2.v, 26) :: M) ?_ ?_
      · try refine run_s ?_
        refine st_dec rfl (fun h8 => ?_) (fun h8 => ?_)
        · repeat (first | refine run_S ?_ | refine w_box (fun _ => ?_) | refine w_al (fun _ => ?_))
          exact sk_cut (E' := [(10, .pointer (some ⟨b10, 0, none⟩)), (12, .pointer (some ⟨b12, 0, none⟩)), (2, .pointer (some ⟨b2, 0, none⟩)), (4, .pointer (some ⟨b4, 0, none⟩))]) ⟨rfl, rfl, rfl, rfl, trivial⟩ ⟨_, _, r6, r5, h7o, h6o.up uc sb, p2, p1, by rw [qpow_div, if_pos h8], rfl, uc, rfl⟩
        · repeat (first | refine run_S ?_ | refine w_box (fun _ => ?_) | refine w_al (fun _ => ?_))
          exact sk_cut (E' := [(10, .pointer (some ⟨b10, 0, none⟩)), (12, .pointer (some ⟨b12, 0, none⟩)), (2, .pointer (some ⟨b2, 0, none⟩)), (4, .pointer (some ⟨b4, 0, none⟩))]) ⟨rfl, rfl, rfl, rfl, trivial⟩ ⟨_, _, r5, r6, h6o.up uc sb, h7o, p1, p2, by rw [qpow_div, if_neg h8], rfl, uc, rfl⟩
      · rintro E U' M' ⟨X, Y, x', y', hX, hY, sX, sY, hval, rfl, hU7, rfl⟩
        repeat (first | refine run_S ?_ | refine w_box (fun _ => ?_) | refine w_al (fun _ => ?_))
        refine sl_call rfl rfl rfl rfl rfl rfl (fun _ => (over_ct (hX.rep.up uc sb) (hX.le (sX) (by omega)) (hY.rep.up uc sb) (hY.le (sY) (by omega))).settle) ?_
        rintro v Uh9 D hU ⟨rfl, _, _, ⟨xh9, rfl, h9, -⟩, -, -, hs⟩
        replace h9 := h9.sett hs
        clear hs
        repeat (first | refine run_S ?_ | refine w_box (fun _ => ?_) | refine w_al (fun _ => ?_))
        rw [← hval] at h9
        exact sk_ret [] sym rfl (.cons (.cell 2 rfl rfl rfl) (.cons (.tmp rfl) .nil)) uc sb (.inl rfl) ⟨xh9, 0, rfl, fun h => absurd h hok, fun _ h => absurd h hbig, fun _ _ => ⟨rfl, h9⟩, rfl⟩

end Go.Proofs.Ytcndgdjelopmaaa
