/- Texts of this seat's own, merged: each begins with its own remark. -/
import Derived.Test.YtcakainebimmdaaM7
import Derived.Test.YtcakainebimmdaaM5
import Derived.Test.YtcakainebimmdaaM4
/- Walks: powers of integers. -/
namespace Go.Proofs.Ytcakainebimmdaa
open Go.Hp
variable {G : World} {U : UH} {M : MH}

/-- The lowest binary digit. -/
theorem yl_and1 {P : Program} {N : Nat} {E : Env} {o : Oper} {ty yt : Nat} {x y : Operand} {k : IntKind} {a : Int} {m : Nat} (ho : o.op = .binOp .and ty x y yt) (hx : ev E x = some (.int k a)) (hy : ev E y = some (.int k 1)) (ha : a = (m : Int)) (hm : (m : Int) ≤ kmax k) :
    Yl P N G o E U M (.int k ((m % 2 : Nat) : Int)) := by
  refine yl_bin ho hx hy (funext fun w => ?_)
  subst ha
  have h1 : (BitVec.ofInt k.bits (m : Int) &&& BitVec.ofInt k.bits 1).toNat = m % 2 := by
    have e1 : BitVec.ofInt k.bits (m : Int) = BitVec.ofNat k.bits m := BitVec.ofInt_natCast ..
    have e2 : BitVec.ofInt k.bits 1 = BitVec.ofNat k.bits 1 := BitVec.ofInt_natCast k.bits 1
    rw [e1, e2, BitVec.toNat_and, BitVec.toNat_ofNat, BitVec.toNat_ofNat]
    cases k <;> simp only [IntKind.bits] <;> simp only [kmax] at hm
    all_goals
      rw [Nat.mod_eq_of_lt (by omega), Nat.mod_eq_of_lt (by decide), Nat.and_one_is_mod]
  simp only [binOp, ne_eq, not_true_eq_false, if_false, Op.intBits]
  show Result.ok (Value.int k (k.wrap (((BitVec.ofInt k.bits (m : Int) &&& BitVec.ofInt k.bits 1).toNat : Nat) : Int))) w = _
  rw [h1, wrap_in (by omega) (by cases k <;> simp only [kmax] <;> omega)]

theorem sz_pow {z : Int} {b j n K : Nat} (hb : blen z.natAbs = b) (hj : j ≤ n) (h : b * n ≤ 32 * K) : Sz (z ^ j) (K + 1) := by
  unfold Sz
  have h1 := blen_lt z.natAbs
  rw [hb] at h1
  rw [Int.natAbs_pow]
  have h2 : z.natAbs ^ j ≤ (2 ^ b) ^ j := Nat.pow_le_pow_left (Nat.le_of_lt h1) j
  rw [← Nat.pow_mul] at h2
  have h3 : b * j ≤ b * n := Nat.mul_le_mul_left _ hj
  have h4 : 2 ^ (b * j) < 2 ^ (32 * (K + 1)) := Nat.pow_lt_pow_right (by decide) (by omega)
  have h5 : (4294967296 : Nat) ^ (K + 1) = 2 ^ (32 * (K + 1)) := by
    rw [Nat.pow_mul]
  omega

theorem pow_short {z : Int} (hz : blen z.natAbs ≤ 1) : ∀ n : Nat, 2 ≤ n → z ^ n = z ^ (2 + n % 2) := by
  have h1 := blen_lt z.natAbs
  have h2 : z.natAbs < 2 := Nat.lt_of_lt_of_le h1 (Nat.pow_le_pow_right (n := 2) (by decide) hz)
  have h3 : z = 0 ∨ z = 1 ∨ z = -1 := by omega
  have h4 : ∀ k : Nat, z ^ (k + 1 + 2) = z ^ (k + 1) := by
    intro k
    have e : z ^ 2 * z = z := by rcases h3 with rfl | rfl | rfl <;> decide
    rw [Int.pow_add, Int.pow_succ, Int.mul_assoc, Int.mul_comm z, e]
  intro n
  induction n using Nat.strongRecOn with
  | ind n ih =>
    intro hn
    by_cases h5 : n ≤ 3
    · rcases (show n = 2 ∨ n = 3 by omega) with rfl | rfl <;> rfl
    · have e1 := ih (n - 2) (by omega) (by omega)
      have e2 := h4 (n - 3)
      rw [show n - 3 + 1 + 2 = n by omega, show n - 3 + 1 = n - 2 by omega] at e2
      rw [e2, e1, show (n - 2) % 2 = n % 2 by omega]

theorem Pow_ct {x : IV} {z n : Int} (hx : x.rep U M z) (hn : x.n ≤ 274877906944) (h0 : -9223372036854775808 ≤ n) (h1 : n ≤ 9223372036854775807) :
    Ct Try.prog 52 [x.v, .int .i64 n] G U M fun v U' D => ∃ (r : IV) (e : Int), v = .tuple #[r.v, .int .i64 e] ∧ (n < 0 → e = 2 ∧ r = zeroIV ∧ D = []) ∧
      (0 ≤ n → 1 < blen z.natAbs → 1048576 / blen z.natAbs < n.toNat → e = 7 ∧ r = zeroIV ∧ D = []) ∧ (0 ≤ n → ¬ (1 < blen z.natAbs ∧ 1048576 / blen z.natAbs < n.toNat) → e = 0 ∧ r.own D (z ^ n.toNat)) ∧ U = U' := by
  have hUc := ULe.refl U
  have hbz : blen z.natAbs ≤ 32 * x.n := by
    obtain ⟨l, hd, rfl⟩ := hx
    rw [sg_natAbs, ← hd.len]
    exact blen_val_le hd.bd
  refine ct_of_st Try.func52 rfl rfl rfl rfl ?_
  repeat (first | refine run_S ?_ | refine w_box (fun _ => ?_) | refine w_al (fun _ => ?_))
  rename_i b2 b4
  refine st_dec rfl (fun hneg => ?_) (fun hneg => ?_)
  · repeat (first | refine run_S ?_ | refine w_box (fun _ => ?_) | refine w_al (fun _ => ?_))
    exact sk_ret [] sym rfl (.cons (.cell 0 rfl rfl rfl) (.cons (.tmp rfl) .nil)) hUc sb (.inl rfl) ⟨zeroIV, 2, rfl, fun _ => ⟨rfl, rfl, rfl⟩, fun h => absurd hneg (by omega), fun h => absurd hneg (by omega), rfl⟩
  obtain ⟨m, rfl⟩ : ∃ m : Nat, n = (m : Int) := ⟨n.toNat, by omega⟩
  simp only [Int.toNat_natCast]
  generalize hB : blen z.natAbs = B at *
  repeat (first | refine run_O ?_ | refine w_box (fun _ => ?_) | refine w_al (fun _ => ?_))
  refine st_seq ?_
  repeat (first | refine run_O ?_ | refine w_box (fun _ => ?_) | refine w_al (fun _ => ?_))
  refine sl_call rfl rfl rfl rfl rfl rfl (fun _ => Bits_ct (hx.up hUc sb) (Nat.le_trans hn (by decide))) ?_
  rintro v U' D hU ⟨rfl, rfl, rfl⟩
  rw [hB]
  repeat (first | refine run_O ?_ | refine w_box (fun _ => ?_) | refine w_al (fun _ => ?_))
  refine st_seq_cut (fun E U' M' => (B ≤ 1 ∨ B * m ≤ 1048576) ∧ E = [(6, .int .i64 (B : Int)), (1, .int .i64 (m : Int)), (2, .pointer (some ⟨b2, 0, none⟩)), (4, .pointer (some ⟨b4, 0, none⟩))] ∧ U = U' ∧
    M' = (b4, .var (.agg #[.bool false, .slice none 0 0]), 24) :: (b2, .var x.v, 24) :: M) ?_ ?_
  · repeat (first | refine run_S ?_ | refine w_box (fun _ => ?_) | refine w_al (fun _ => ?_))
    refine sl_gdec rfl rfl (fun h2 => ?_) (fun h2 => ?_)
    · repeat (first | refine run_S ?_ | refine w_box (fun _ => ?_) | refine w_al (fun _ => ?_))
      refine sl_y (yl_quoN (k := .i64) (m := 1048576) (n := B) rfl rfl rfl rfl rfl (by simp only [kmax]; omega) (by omega) rfl) rfl rfl rfl rfl ?_
      repeat (first | refine run_S ?_ | refine w_box (fun _ => ?_) | refine w_al (fun _ => ?_))
      refine st_dec rfl (fun h3 => ?_) (fun h3 => ?_)
      · repeat (first | refine run_S ?_ | refine w_box (fun _ => ?_) | refine w_al (fun _ => ?_))
        exact sk_ret [] sym rfl (.cons (.cell 0 rfl rfl rfl) (.cons (.tmp rfl) .nil)) hUc sb (.inl rfl) ⟨zeroIV, 7, rfl, fun h => by omega, fun _ _ _ => ⟨rfl, rfl, rfl⟩, fun _ h => absurd ⟨by omega, by omega⟩ h, rfl⟩
      · repeat (first | refine run_S ?_ | refine w_box (fun _ => ?_) | refine w_al (fun _ => ?_))
        refine sk_cut (E' := [(6, .int .i64 (B : Int)), (1, .int .i64 (m : Int)), (2, .pointer (some ⟨b2, 0, none⟩)), (4, .pointer (some ⟨b4, 0, none⟩))]) ⟨rfl, rfl, rfl, rfl, trivial⟩ ⟨.inr ?_, rfl, rfl, rfl⟩
        have h4 : m ≤ 1048576 / B := by omega
        have h5 := Nat.mul_le_mul_left B h4
        exact Nat.le_trans h5 (Nat.mul_div_le ..)
    · repeat (first | refine run_S ?_ | refine w_box (fun _ => ?_) | refine w_al (fun _ => ?_))
      exact sk_cut (E' := [(6, .int .i64 (B : Int)), (1, .int .i64 (m : Int)), (2, .pointer (some ⟨b2, 0, none⟩)), (4, .pointer (some ⟨b4, 0, none⟩))]) ⟨rfl, rfl, rfl, rfl, trivial⟩ ⟨.inl (by omega), rfl, rfl, rfl⟩
  rintro E U' M' ⟨hBm, rfl, rfl, rfl⟩
  refine st_seq_cut (fun E U' M' => ∃ k : Nat, z ^ k = z ^ m ∧ B * k ≤ 1048576 ∧ k ≤ m ∧ E = [(1, .int .i64 (k : Int)), (2, .pointer (some ⟨b2, 0, none⟩)), (4, .pointer (some ⟨b4, 0, none⟩))] ∧ U = U' ∧
    M' = (b4, .var (.agg #[.bool false, .slice none 0 0]), 24) :: (b2, .var x.v, 24) :: M) ?_ ?_
  · repeat (first | refine run_S ?_ | refine w_box (fun _ => ?_) | refine w_al (fun _ => ?_))
    refine st_dec rfl (fun h2 => ?_) (fun h2 => ?_)
    · repeat (first | refine run_S ?_ | refine w_box (fun _ => ?_) | refine w_al (fun _ => ?_))
      have w1 : IntKind.i64.wrap (2 + (m : Int).tmod 2) = ((2 + m % 2 : Nat) : Int) := by
        rw [Int.tmod_eq_emod_of_nonneg (by omega), wrap_in (by omega) (by simp only [kmax]; omega)]; omega
      rw [w1]
      by_cases h3 : 2 + m % 2 < m
      · rw [if_pos (by omega)]
        refine sk_cut (E' := [(1, .int .i64 ((2 + m % 2 : Nat) : Int)), (2, .pointer (some ⟨b2, 0, none⟩)), (4, .pointer (some ⟨b4, 0, none⟩))]) ⟨rfl, rfl, rfl, trivial⟩ ⟨2 + m % 2, (pow_short (by omega) m (by omega)).symm, ?_, by omega, rfl, rfl, rfl⟩
        have := Nat.mul_le_mul_right (2 + m % 2) (show B ≤ 1 by omega)
        omega
      · rw [if_neg (by omega)]
        refine sk_cut (E' := [(1, .int .i64 (m : Int)), (2, .pointer (some ⟨b2, 0, none⟩)), (4, .pointer (some ⟨b4, 0, none⟩))]) ⟨rfl, rfl, rfl, trivial⟩ ⟨m, rfl, ?_, Nat.le_refl _, rfl, rfl, rfl⟩
        have := Nat.mul_le_mul_right m (show B ≤ 1 by omega)
        omega
    · repeat (first | refine run_S ?_ | refine w_box (fun _ => ?_) | refine w_al (fun _ => ?_))
      exact sk_cut (E' := [(1, .int .i64 (m : Int)), (2, .pointer (some ⟨b2, 0, none⟩)), (4, .pointer (some ⟨b4, 0, none⟩))]) ⟨rfl, rfl, rfl, trivial⟩ ⟨m, rfl, by omega, Nat.le_refl _, rfl, rfl, rfl⟩
  rintro E U' M' ⟨k, hk, hBk, hkm, rfl, rfl, rfl⟩
  have hbk : blen k ≤ 64 := blen_le_of (k := 64) (by omega)
  have hkz : k / 2 ^ blen k = 0 := Nat.div_eq_of_lt (blen_lt k)
  repeat (first | refine run_S ?_ | refine w_box (fun _ => ?_) | refine w_al (fun _ => ?_))
  refine sl_call rfl rfl rfl rfl rfl rfl (fun _ => Of_ct (z := 1) (by decide) (by decide)) ?_
  rintro v U' Dh2 hU ⟨xh2, rfl, h2, rfl⟩
  refine sl_perm ?_ (perm2 (D := Dh2))
  repeat (first | refine run_S ?_ | refine w_box (fun _ => ?_) | refine w_al (fun _ => ?_))
  rename_i b7
  refine sl_call rfl rfl rfl rfl rfl rfl (fun _ => Len_ct (x := k) (by omega)) ?_
  rintro v U' D hU ⟨rfl, rfl, rfl⟩
  repeat (first | refine run_S ?_ | refine w_box (fun _ => ?_) | refine w_al (fun _ => ?_))
  refine st_loop (fun m' E U' M' => ∃ (j : Nat) (r : IV) (D X : MH), j ≤ blen k ∧ r.own D (z ^ (k / 2 ^ j)) ∧ E = [(8, .int .i64 ((j : Int) - 1)), (7, .pointer (some ⟨b7, 0, none⟩)), (1, .int .i64 (k : Int)), (2, .pointer (some ⟨b2, 0, none⟩)), (4, .pointer (some ⟨b4, 0, none⟩))] ∧ U = U' ∧
      M' = (b7, .var r.v, 24) :: (b4, .var (.agg #[.bool false, .slice none 0 0]), 24) :: (b2, .var x.v, 24) :: (D ++ X) ∧ M.Sublist X ∧ j = m') (n0 := blen k)
    (E0 := [(8, .int .i64 ((blen k : Int) - 1)), (7, .pointer (some ⟨b7, 0, none⟩)), (1, .int .i64 (k : Int)), (2, .pointer (some ⟨b2, 0, none⟩)), (4, .pointer (some ⟨b4, 0, none⟩))]) ⟨rfl, rfl, rfl, rfl, rfl, trivial⟩
    ⟨blen k, xh2, Dh2, M, Nat.le_refl _, by rw [hkz, Int.pow_zero]; exact h2, rfl, rfl, rfl, List.Sublist.refl _, rfl⟩ ?_
  clear h2
  rintro m' E U' M' ⟨j, r, D, X, hj, hr, rfl, rfl, rfl, hX, rfl⟩
  try refine run_s ?_
  refine st_dec rfl (fun h5 => ?_) (fun h5 => ?_)
  · obtain ⟨i, rfl⟩ : ∃ i, j = i + 1 := ⟨j - 1, by omega⟩
    rw [show ((i + 1 : Nat) : Int) - 1 = (i : Int) by omega]
    have hQ : k / 2 ^ (i + 1) = k / 2 ^ i / 2 := by rw [Nat.pow_succ, Nat.div_div_eq_div_mul]
    have hQk : k / 2 ^ i ≤ k := Nat.div_le_self ..
    rw [hQ] at hr
    generalize hQi : k / 2 ^ i = Q at *
    have s1 := sz_pow (K := 32768) hB (show Q / 2 ≤ k by omega) hBk
    repeat (first | refine run_S ?_ | refine w_box (fun _ => ?_) | refine w_al (fun _ => ?_))
    refine sl_call rfl rfl rfl rfl rfl rfl (fun _ => Mul_ct (hr.at sb).rep (hr.le s1 (by decide)) (hr.at sb).rep (hr.le s1 (by decide))) ?_
    rintro v U' Dh6 hU ⟨xh6, rfl, h6, rfl⟩
    refine sl_perm ?_ (perm3 (D := Dh6))
    repeat (first | refine run_S ?_ | refine w_box (fun _ => ?_) | refine w_al (fun _ => ?_))
    rw [← Int.pow_add] at h6
    have s2 := sz_pow (K := 32768) hB (show Q / 2 + Q / 2 ≤ k by omega) hBk
    refine sl_y (yl_shrN (m := k) (n := i) rfl rfl rfl rfl rfl (by simp only [IntKind.bits]; omega) hQi) rfl rfl rfl rfl ?_
    repeat (first | refine run_S ?_ | refine w_box (fun _ => ?_) | refine w_al (fun _ => ?_))
    refine sl_y (yl_and1 (k := .i64) (m := Q) rfl rfl rfl rfl (by simp only [kmax]; omega)) rfl rfl rfl rfl ?_
    repeat (first | refine run_S ?_ | refine w_box (fun _ => ?_) | refine w_al (fun _ => ?_))
    refine st_eq rfl (fun h7 => ?_) (fun h7 => ?_)
    · repeat (first | refine run_S ?_ | refine w_box (fun _ => ?_) | refine w_al (fun _ => ?_))
      refine sl_call rfl rfl rfl rfl rfl rfl (fun _ => Mul_ct (h6.at sb).rep (h6.le s2 (by decide)) (hx.up hUc ((hX.trans (sub_r (sub_r (List.Sublist.refl _)))).trans sb)) (Nat.le_trans hn (by decide))) ?_
      rintro v U' Dh8 hU ⟨xh8, rfl, h8, rfl⟩
      refine sl_perm ?_ (perm3 (D := Dh8))
      repeat (first | refine run_S ?_ | refine w_box (fun _ => ?_) | refine w_al (fun _ => ?_))
      rw [← Int.pow_succ, show (Q / 2 + Q / 2).succ = Q by omega, ← hQi] at h8
      exact sk_again (E' := [(8, .int .i64 ((i : Int) - 1)), (7, .pointer (some ⟨b7, 0, none⟩)), (1, .int .i64 (k : Int)), (2, .pointer (some ⟨b2, 0, none⟩)), (4, .pointer (some ⟨b4, 0, none⟩))]) (m := i) ⟨rfl, rfl, rfl, rfl, rfl, trivial⟩ (by omega)
        ⟨i, xh8, Dh8, Dh6 ++ (D ++ X), by omega, h8, rfl, rfl, rfl, sub_r (sub_r hX), rfl⟩
    · repeat (first | refine run_S ?_ | refine w_box (fun _ => ?_) | refine w_al (fun _ => ?_))
      rw [show Q / 2 + Q / 2 = Q by omega, ← hQi] at h6
      exact sk_again (E' := [(8, .int .i64 ((i : Int) - 1)), (7, .pointer (some ⟨b7, 0, none⟩)), (1, .int .i64 (k : Int)), (2, .pointer (some ⟨b2, 0, none⟩)), (4, .pointer (some ⟨b4, 0, none⟩))]) (m := i) ⟨rfl, rfl, rfl, rfl, rfl, trivial⟩ (by omega)
        ⟨i, xh6, Dh6, D ++ X, by omega, h6, rfl, rfl, rfl, sub_r hX, rfl⟩
  · have hj0 : j = 0 := by omega
    subst hj0
    rw [Nat.pow_zero, Nat.div_one, hk] at hr
    repeat (first | refine run_S ?_ | refine w_box (fun _ => ?_) | refine w_al (fun _ => ?_))
    exact sk_ret D sym rfl (.cons (.cell 1 rfl rfl rfl) (.cons (.tmp rfl) .nil)) hUc (.cons _ (.cons _ (.cons _ (List.Sublist.append (List.Sublist.refl D) hX)))) (.inl rfl)
      ⟨r, 0, rfl, fun h => absurd h hneg, fun _ g1 g2 => by
        have h4 : 1048576 < B * m := by
          have := Nat.div_add_mod 1048576 B
          have h6 := Nat.mod_lt 1048576 (show 0 < B by omega)
          have h7 : B * (1048576 / B + 1) ≤ B * m := Nat.mul_le_mul_left _ g2
          rw [Nat.mul_add] at h7
          omega
        omega, fun _ _ => ⟨rfl, hr⟩, rfl⟩

end Go.Proofs.Ytcakainebimmdaa

/- Walks of the reference of layer 1: powers. -/
namespace Go.Proofs.Ytcakainebimmdaa
open Go.Hp
variable {G : World} {U : UH} {M : MH}

theorem rTooGreat_ct {x : IV} {z : Int} {m : Nat} (hx : x.rep U M z) (hn : x.n ≤ 274877906944) :
    Ct Try.prog 53 [x.v, .int .i64 (m : Int)] G U M fun v U' D => v = .bool (decide (1 < blen z.natAbs ∧ 1048576 / blen z.natAbs < m)) ∧ U = U' ∧ D = [] := by
  have hUc := ULe.refl U
  have hbz : blen z.natAbs ≤ 32 * x.n := by
    obtain ⟨l, hd, rfl⟩ := hx
    rw [sg_natAbs, ← hd.len]
    exact blen_val_le hd.bd
  refine ct_of_st Try.func53 rfl rfl rfl rfl ?_
  repeat (first | refine run_S ?_ | refine w_box (fun _ => ?_) | refine w_al (fun _ => ?_))
  refine sl_call rfl rfl rfl rfl rfl rfl (fun _ => rBits_ct (hx.up hUc sb) (Nat.le_trans hn (by decide))) ?_
  rintro v U' D hU ⟨rfl, rfl, rfl⟩
  repeat (first | refine run_S ?_ | refine w_box (fun _ => ?_) | refine w_al (fun _ => ?_))
  generalize blen z.natAbs = B at *
  refine sl_gdec rfl rfl (fun h2 => ?_) (fun h2 => ?_)
  · repeat (first | refine run_S ?_ | refine w_box (fun _ => ?_) | refine w_al (fun _ => ?_))
    refine sl_y (yl_quoN (k := .i64) (m := 1048576) (n := B) rfl rfl rfl rfl rfl (by simp only [kmax]; omega) (by omega) rfl) rfl rfl rfl rfl ?_
    repeat (first | refine run_S ?_ | refine w_box (fun _ => ?_) | refine w_al (fun _ => ?_))
    refine sk_ret [] sym rfl (.cons (.tmp rfl) .nil) hUc sb (.inl rfl) ⟨?_, rfl, rfl⟩
    refine congrArg Value.bool ?_
    rw [dec_eq]
    exact decide_eq_decide.2 ⟨fun h => ⟨by omega, by omega⟩, fun h => by omega⟩
  · repeat (first | refine run_S ?_ | refine w_box (fun _ => ?_) | refine w_al (fun _ => ?_))
    refine sk_ret [] sym rfl (.cons (.tmp rfl) .nil) hUc sb (.inl rfl) ⟨?_, rfl, rfl⟩
    exact congrArg Value.bool (decide_eq_false (fun h => h2 (by omega))).symm

theorem rRaised_ct {x : IV} {z : Int} {m K : Nat} (hx : x.rep U M z) (hn : x.n ≤ 549755813888) (hm : m ≤ 9223372036854775807) (hK : blen z.natAbs * m ≤ 32 * K) (hK2 : K + 1 ≤ 549755813888) :
    Ct Try.prog 54 [x.v, .int .i64 (m : Int)] G U M fun v U' D => ∃ r : IV, v = r.v ∧ r.own D (z ^ m) ∧ U = U' := by
  have hUc := ULe.refl U
  generalize hB : blen z.natAbs = B at *
  refine ct_of_st Try.func54 rfl rfl rfl rfl ?_
  repeat (first | refine run_S ?_ | refine w_box (fun _ => ?_) | refine w_al (fun _ => ?_))
  rename_i b2 b4
  refine sl_call rfl rfl rfl rfl rfl rfl (fun _ => rOf_ct (z := 1) (by decide) (by decide)) ?_
  rintro v U' Dh2 hU ⟨xh2, rfl, h2, rfl⟩
  refine sl_perm ?_ (perm2 (D := Dh2))
  repeat (first | refine run_S ?_ | refine w_box (fun _ => ?_) | refine w_al (fun _ => ?_))
  rename_i b5
  refine st_loop (fun m' E U' M' => ∃ (nc p c : Nat) (r y : IV) (D X : MH), p + c * nc = m ∧ 1 ≤ c ∧ r.own D (z ^ p) ∧ y.rep U (D ++ X) (z ^ c) ∧ y.n ≤ 549755813888 ∧
      E = [(5, .pointer (some ⟨b5, 0, none⟩)), (1, .int .i64 (nc : Int)), (2, .pointer (some ⟨b2, 0, none⟩)), (4, .pointer (some ⟨b4, 0, none⟩))] ∧ U = U' ∧
      M' = (b5, .var r.v, 24) :: (b4, .var (.agg #[.bool false, .slice none 0 0]), 24) :: (b2, .var y.v, 24) :: (D ++ X) ∧ M.Sublist X ∧ nc = m') (n0 := m)
    (E0 := [(5, .pointer (some ⟨b5, 0, none⟩)), (1, .int .i64 (m : Int)), (2, .pointer (some ⟨b2, 0, none⟩)), (4, .pointer (some ⟨b4, 0, none⟩))]) ⟨rfl, rfl, rfl, rfl, trivial⟩
    ⟨m, 0, 1, xh2, x, Dh2, M, by omega, Nat.le_refl _, by rw [Int.pow_zero]; exact h2, by rw [Int.pow_succ, Int.pow_zero, Int.one_mul]; exact hx.up hUc sb, hn, rfl, rfl, rfl, List.Sublist.refl _, rfl⟩ ?_
  clear h2
  rintro m' E U' M' ⟨nc, p, c, r, y, D, X, hp, hc1, hr, hy, hyn, rfl, rfl, rfl, hX, rfl⟩
  try refine run_s ?_
  refine st_dec rfl (fun h5 => ?_) (fun h5 => ?_)
  · have hcn : c ≤ c * nc := Nat.le_mul_of_pos_right c (by omega)
    have hncm : nc ≤ c * nc := Nat.le_mul_of_pos_left nc (by omega)
    have i1 : (nc : Int).tmod 2 = ((nc % 2 : Nat) : Int) := by rw [Int.tmod_eq_emod_of_nonneg (by omega)]; omega
    have hdm : c * nc = c * (nc % 2) + c * (2 * (nc / 2)) := by rw [← Nat.mul_add, Nat.mod_add_div]
    have sp := sz_pow (K := K) hB (show p ≤ m by omega) hK
    repeat (first | refine run_O ?_ | refine w_box (fun _ => ?_) | refine w_al (fun _ => ?_))
    refine st_block ?_
    refine st_seq_cut (fun E U' M' => ∃ (p' : Nat) (r : IV) (D X : MH), p' + c * (2 * (nc / 2)) = m ∧ r.own D (z ^ p') ∧ y.rep U (D ++ X) (z ^ c) ∧
      E = [(5, .pointer (some ⟨b5, 0, none⟩)), (1, .int .i64 (nc : Int)), (2, .pointer (some ⟨b2, 0, none⟩)), (4, .pointer (some ⟨b4, 0, none⟩))] ∧ U = U' ∧
      M' = (b5, .var r.v, 24) :: (b4, .var (.agg #[.bool false, .slice none 0 0]), 24) :: (b2, .var y.v, 24) :: (D ++ X) ∧ M.Sublist X) ?_ ?_
    · repeat (first | refine run_S ?_ | refine w_box (fun _ => ?_) | refine w_al (fun _ => ?_))
      rw [i1]
      refine st_eq rfl (fun h6 => ?_) (fun h6 => ?_)
      · repeat (first | refine run_S ?_ | refine w_box (fun _ => ?_) | refine w_al (fun _ => ?_))
        refine sl_call rfl rfl rfl rfl rfl rfl (fun _ => rMul_ct (hr.at sb).rep (hr.le sp hK2) (hy.up hUc sb) hyn) ?_
        rintro v U' Dh6 hU ⟨xh6, rfl, h6, rfl⟩
        refine sl_perm ?_ (perm3 (D := Dh6))
        repeat (first | refine run_S ?_ | refine w_box (fun _ => ?_) | refine w_al (fun _ => ?_))
        rw [← Int.pow_add] at h6
        exact sk_cut (E' := [(5, .pointer (some ⟨b5, 0, none⟩)), (1, .int .i64 (nc : Int)), (2, .pointer (some ⟨b2, 0, none⟩)), (4, .pointer (some ⟨b4, 0, none⟩))]) ⟨rfl, rfl, rfl, rfl, trivial⟩
          ⟨p + c, xh6, Dh6, D ++ X, by rw [show nc % 2 = 1 by omega, Nat.mul_one] at hdm; omega, h6, hy.up hUc sb, rfl, rfl, rfl, sub_r hX⟩
      · repeat (first | refine run_S ?_ | refine w_box (fun _ => ?_) | refine w_al (fun _ => ?_))
        exact sk_cut (E' := [(5, .pointer (some ⟨b5, 0, none⟩)), (1, .int .i64 (nc : Int)), (2, .pointer (some ⟨b2, 0, none⟩)), (4, .pointer (some ⟨b4, 0, none⟩))]) ⟨rfl, rfl, rfl, rfl, trivial⟩
          ⟨p, r, D, X, by rw [show nc % 2 = 0 by omega, Nat.mul_zero] at hdm; omega, hr, hy, rfl, rfl, rfl, hX⟩
    clear hr hX hy sp
    rintro E U' M' ⟨p', r, D, X, hp', hr, hy, rfl, rfl, rfl, hX⟩
    have i2 : IntKind.i64.wrap ((nc : Int).tdiv 2) = ((nc / 2 : Nat) : Int) := by
      rw [Int.tdiv_eq_ediv_of_nonneg (by omega), wrap_in (by omega) (by simp only [kmax]; omega)]; omega
    repeat (first | refine run_S ?_ | refine w_box (fun _ => ?_) | refine w_al (fun _ => ?_))
    rw [i2]
    refine st_dec rfl (fun h6 => ?_) (fun h6 => ?_)
    · have h7 : c * 2 ≤ c * (2 * (nc / 2)) := Nat.mul_le_mul_left _ (by omega)
      have sc := sz_pow (K := K) hB (show c ≤ m by omega) hK
      have sc2 := sz_pow (K := K) hB (show c + c ≤ m by omega) hK
      repeat (first | refine run_S ?_ | refine w_box (fun _ => ?_) | refine w_al (fun _ => ?_))
      refine sl_call rfl rfl rfl rfl rfl rfl (fun _ => rMul_ct (hy.up hUc sb) hyn (hy.up hUc sb) hyn) ?_
      rintro v U' Dh8 hU ⟨xh8, rfl, h8, rfl⟩
      refine sl_perm ?_ (perm3 (D := Dh8))
      repeat (first | refine run_S ?_ | refine w_box (fun _ => ?_) | refine w_al (fun _ => ?_))
      rw [← Int.pow_add] at h8
      refine sk_perm (swp3 (A := Dh8) (B := D)) ?_
      exact sk_again (E' := [(5, .pointer (some ⟨b5, 0, none⟩)), (1, .int .i64 ((nc / 2 : Nat) : Int)), (2, .pointer (some ⟨b2, 0, none⟩)), (4, .pointer (some ⟨b4, 0, none⟩))]) (m := nc / 2) ⟨rfl, rfl, rfl, rfl, trivial⟩ (by omega)
        ⟨nc / 2, p', c + c, r, xh8, D, Dh8 ++ X, by rw [← Nat.mul_two, Nat.mul_assoc]; exact hp', by omega, hr, (h8.at sb).rep, h8.le sc2 hK2, rfl, rfl, rfl, sub_r hX, rfl⟩
    · have hn0 : nc / 2 = 0 := by omega
      rw [hn0] at hp' ⊢
      repeat (first | refine run_S ?_ | refine w_box (fun _ => ?_) | refine w_al (fun _ => ?_))
      exact sk_again (E' := [(5, .pointer (some ⟨b5, 0, none⟩)), (1, .int .i64 ((0 : Nat) : Int)), (2, .pointer (some ⟨b2, 0, none⟩)), (4, .pointer (some ⟨b4, 0, none⟩))]) (m := 0) ⟨rfl, rfl, rfl, rfl, trivial⟩ (by omega)
        ⟨0, p', c, r, y, D, X, by omega, hc1, hr, hy, hyn, rfl, rfl, rfl, hX, rfl⟩
  · have hn0 : nc = 0 := by omega
    subst hn0
    rw [Nat.mul_zero, Nat.add_zero] at hp
    subst hp
    repeat (first | refine run_S ?_ | refine w_box (fun _ => ?_) | refine w_al (fun _ => ?_))
    exact sk_ret D sym rfl (.cons (.cell 1 rfl rfl rfl) .nil) hUc (.cons _ (.cons _ (.cons _ (List.Sublist.append (List.Sublist.refl D) hX)))) (.inl rfl) ⟨r, rfl, hr, rfl⟩

end Go.Proofs.Ytcakainebimmdaa

/- Walks: powers modulo an integer. -/
namespace Go.Proofs.Ytcakainebimmdaa
open Go.Hp
variable {G : World} {U : UH} {M : MH}

theorem bit_of (V A P d R e : Nat) (h : V = A + P * (d + 4294967296 * R)) (hA : A < P) (he : e < 32) : d / 2 ^ e % 2 = V / (P * 2 ^ e) % 2 := by
  have h1 : V / P = d + 4294967296 * R := by
    rw [h, Nat.add_mul_div_left _ _ (by omega), Nat.div_eq_of_lt hA, Nat.zero_add]
  rw [← Nat.div_div_eq_div_mul, h1]
  have h2 : (4294967296 : Nat) = 2 ^ e * (2 * 2 ^ (31 - e)) := by
    rw [← Nat.pow_succ', ← Nat.pow_add, show e + (31 - e + 1) = 32 by omega]
  rw [h2, Nat.mul_assoc, Nat.add_mul_div_left _ _ (Nat.pow_pos (by decide)), Nat.mul_assoc]
  omega

theorem digit_bit {l : List Nat} (hb : Bd l) {i d : Nat} (h : l[i / 32]? = some d) : d / 2 ^ (i % 32) % 2 = val l / 2 ^ i % 2 := by
  obtain ⟨hl, hx⟩ := List.getElem?_eq_some_iff.1 h
  have h1 := val_split l (i / 32) (by omega)
  rw [List.drop_eq_getElem_cons hl, hx] at h1
  simp only [val] at h1
  have h2 := val_lt (bd_take hb (i / 32))
  rw [List.length_take, Nat.min_eq_left (by omega)] at h2
  have hi : 2 ^ i = 4294967296 ^ (i / 32) * 2 ^ (i % 32) := by
    rw [show (4294967296 : Nat) = 2 ^ 32 by decide, ← Nat.pow_mul, ← Nat.pow_add, Nat.div_add_mod]
  rw [hi]
  exact bit_of _ _ _ _ _ _ h1 h2 (Nat.mod_lt _ (by decide))

/-- A number's binary digits lie within its digits. -/
theorem bit_in {l : List Nat} (hb : Bd l) {i : Nat} (h : i < blen (val l)) : i / 32 < l.length := by
  have := blen_val_le hb
  omega

theorem sz_mod {z u : Int} {k : Nat} (h : Sz u k) (hu : u ≠ 0) : Sz (z % u) k := by
  unfold Sz at *
  have h1 := Int.emod_nonneg z hu
  have h2 := Int.emod_lt z hu
  omega

theorem PowMod_ct {x y m : IV} {z e u : Int} (hx : x.rep U M z) (hn : x.n ≤ 274877906944) (hy : y.rep U M e) (hn' : y.n ≤ 274877906944) (hm : m.rep U M u) (hnm : m.n ≤ 274877906944) :
    Ct Try.prog 55 [x.v, y.v, m.v] G U M fun v U' D => ∃ (r : IV) (ev : Int), v = .tuple #[r.v, .int .i64 ev] ∧ (u = 0 → ev = 5 ∧ r = zeroIV ∧ D = []) ∧ (u ≠ 0 → e < 0 → ev = 2 ∧ r = zeroIV ∧ D = []) ∧
      (u ≠ 0 → 0 ≤ e → ev = 0 ∧ r.own D (z ^ e.toNat % u)) ∧ ULe U U' := by
  have hUc := ULe.refl U
  have su := hm.sz (Nat.le_refl _)
  refine ct_of_st Try.func55 rfl rfl rfl rfl ?_
  repeat (first | refine run_S ?_ | refine w_box (fun _ => ?_) | refine w_al (fun _ => ?_))
  rename_i b3 b4 b5 b6
  refine sl_call rfl rfl rfl rfl rfl rfl (fun _ => Sign_ct (hm.up hUc sb) (Nat.le_trans hnm (by decide))) ?_
  rintro v U' D hU ⟨rfl, rfl, rfl⟩
  repeat (first | refine run_S ?_ | refine w_box (fun _ => ?_) | refine w_al (fun _ => ?_))
  by_cases hu : u = 0
  · refine st_eq rfl (fun _ => ?_) (fun h => absurd (by rw [hu]; rfl) h)
    repeat (first | refine run_S ?_ | refine w_box (fun _ => ?_) | refine w_al (fun _ => ?_))
    exact sk_ret [] sym rfl (.cons (.cell 0 rfl rfl rfl) (.cons (.tmp rfl) .nil)) hUc sb (.inl rfl) ⟨zeroIV, 5, rfl, fun _ => ⟨rfl, rfl, rfl⟩, fun h => absurd hu h, fun h => absurd hu h, hUc⟩
  refine st_eq rfl (fun h => absurd (Int.sign_eq_zero_iff_zero.1 h) hu) (fun _ => ?_)
  repeat (first | refine run_S ?_ | refine w_box (fun _ => ?_) | refine w_al (fun _ => ?_))
  refine sl_call rfl rfl rfl rfl rfl rfl (fun _ => Sign_ct (hy.up hUc sb) (Nat.le_trans hn' (by decide))) ?_
  rintro v U' D hU ⟨rfl, rfl, rfl⟩
  repeat (first | refine run_S ?_ | refine w_box (fun _ => ?_) | refine w_al (fun _ => ?_))
  by_cases he : e < 0
  · refine st_dec rfl (fun _ => ?_) (fun h => absurd (by rw [Int.sign_eq_neg_one_of_neg he]; decide) h)
    repeat (first | refine run_S ?_ | refine w_box (fun _ => ?_) | refine w_al (fun _ => ?_))
    exact sk_ret [] sym rfl (.cons (.cell 0 rfl rfl rfl) (.cons (.tmp rfl) .nil)) hUc sb (.inl rfl) ⟨zeroIV, 2, rfl, fun h => absurd h hu, fun _ _ => ⟨rfl, rfl, rfl⟩, fun _ h => absurd he (by omega), hUc⟩
  obtain ⟨E0, rfl⟩ : ∃ E0 : Nat, e = (E0 : Int) := ⟨e.toNat, by omega⟩
  refine st_dec rfl (fun h => absurd h (by have := Int.sign_nonneg_iff.2 (show (0 : Int) ≤ (E0 : Int) by omega); omega)) (fun _ => ?_)
  simp only [Int.toNat_natCast]
  repeat (first | refine run_S ?_ | refine w_box (fun _ => ?_) | refine w_al (fun _ => ?_))
  refine sl_call rfl rfl rfl rfl rfl rfl (fun _ => DivMod_ct (hx.up hUc sb) (Nat.le_trans hn (by decide)) (hm.up hUc sb) (Nat.le_trans hnm (by decide))) ?_
  rintro v Ur1 D hU ⟨xq1, xr1, ev, Dq1, Dr1, rfl, rfl, hdm, -, -⟩
  obtain ⟨rfl, q1, r1⟩ := hdm hu
  replace hUc := hUc.trans hU
  rw [List.append_assoc]
  refine sl_perm ?_ ((List.Perm.append_left Dr1 (perm4 (D := Dq1))).trans (perm4 (D := Dr1)))
  repeat (first | refine run_S ?_ | refine w_box (fun _ => ?_) | refine w_al (fun _ => ?_))
  rename_i b8 b9
  have hnm2 : m.n ≤ 1099511627776 := Nat.le_trans hnm (by decide)
  refine st_draw [1, 0, 2, 3, 4, 5, 6, 7, 8, 9, 10, 11] sym (by kernel_rfl) ?_
  repeat (first | refine run_S ?_ | refine w_box (fun _ => ?_) | refine w_al (fun _ => ?_))
  refine sl_call rfl rfl rfl rfl rfl rfl (fun _ => Of_ct (z := 1) (by decide) (by decide)) ?_
  rintro v U' Dh1 hU ⟨xh1, rfl, h1, rfl⟩
  refine sl_perm ?_ (perm6 (D := Dh1))
  repeat (first | refine run_S ?_ | refine w_box (fun _ => ?_) | refine w_al (fun _ => ?_))
  refine sl_call rfl rfl rfl rfl rfl rfl (fun _ => DivMod_ct (h1.at sb).rep (h1.le (k := 1) (by unfold Sz; decide) (by decide)) (hm.up hUc sb) hnm2) ?_
  rintro v Ur2 D hU ⟨xq2, xr2, ev, Dq2, Dr2, rfl, rfl, hdm, -, -⟩
  obtain ⟨rfl, q2, r2⟩ := hdm hu
  replace hUc := hUc.trans hU
  rw [List.append_assoc]
  refine sl_perm ?_ ((List.Perm.append_left Dr2 (perm6 (D := Dq2))).trans (perm6 (D := Dr2)))
  repeat (first | refine run_S ?_ | refine w_box (fun _ => ?_) | refine w_al (fun _ => ?_))
  rename_i b11 b12
  obtain ⟨l, hd, hl⟩ := id hy
  have hlE : val l = E0 := by rw [← sg_natAbs y.neg (val l), ← hl, Int.natAbs_natCast]
  have hbE : blen ((E0 : Int)).natAbs ≤ 32 * y.n := by rw [Int.natAbs_natCast, ← hlE, ← hd.len]; exact blen_val_le hd.bd
  refine sl_call rfl rfl rfl rfl rfl rfl (fun _ => Bits_ct (hy.up hUc sb) (Nat.le_trans hn' (by decide))) ?_
  rintro v U' D hU ⟨rfl, rfl, rfl⟩
  repeat (first | refine run_S ?_ | refine w_box (fun _ => ?_) | refine w_al (fun _ => ?_))
  rw [Int.natAbs_natCast] at hbE
  rw [Int.natAbs_natCast]
  have hz0 : E0 / 2 ^ blen E0 = 0 := Nat.div_eq_of_lt (blen_lt E0)
  refine st_loop (fun m' E U' M' => ∃ (j : Nat) (r : IV) (D X : MH), j ≤ blen E0 ∧ r.own D (z ^ (E0 / 2 ^ j) % u) ∧ E = [(14, .int .i64 ((j : Int) - 1)), (12, .pointer (some ⟨b12, 0, none⟩)), (9, .pointer (some ⟨b9, 0, none⟩)), (4, .pointer (some ⟨b4, 0, none⟩)), (5, .pointer (some ⟨b5, 0, none⟩)), (6, .pointer (some ⟨b6, 0, none⟩))] ∧ ULe U U' ∧
      M' = (b12, .var r.v, 24) :: (b11, .var xq2.v, 24) :: (b9, .var xr1.v, 24) :: (b8, .var xq1.v, 24) :: (b6, .var (.agg #[.bool false, .slice none 0 0]), 24) :: (b5, .var m.v, 24) :: (b4, .var y.v, 24) :: (b3, .var x.v, 24) :: (D ++ X) ∧
      M.Sublist X ∧ Dr1.Sublist X ∧ j = m') (n0 := blen E0)
    (E0 := [(14, .int .i64 ((blen E0 : Int) - 1)), (12, .pointer (some ⟨b12, 0, none⟩)), (9, .pointer (some ⟨b9, 0, none⟩)), (4, .pointer (some ⟨b4, 0, none⟩)), (5, .pointer (some ⟨b5, 0, none⟩)), (6, .pointer (some ⟨b6, 0, none⟩))]) ⟨rfl, rfl, rfl, rfl, rfl, rfl, trivial⟩
    ⟨blen E0, xr2, Dr2, Dq2 ++ (Dh1 ++ (Dr1 ++ (Dq1 ++ M))), Nat.le_refl _, by rw [hz0, Int.pow_zero]; exact r2, rfl, hUc, rfl, sb, sb, rfl⟩ ?_
  clear hUc
  rintro m' E U' M' ⟨j, r, D, X, hj, hr, rfl, hUc, rfl, hX, hXr, rfl⟩
  try refine run_s ?_
  refine st_dec rfl (fun h5 => ?_) (fun h5 => ?_)
  · obtain ⟨i, rfl⟩ : ∃ i, j = i + 1 := ⟨j - 1, by omega⟩
    rw [show ((i + 1 : Nat) : Int) - 1 = (i : Int) by omega]
    have hQ : E0 / 2 ^ (i + 1) = E0 / 2 ^ i / 2 := by rw [Nat.pow_succ, Nat.div_div_eq_div_mul]
    rw [hQ] at hr
    have hil := bit_in hd.bd (i := i) (by rw [hlE]; omega)
    have i1 : IntKind.i64.wrap ((i : Int).tdiv 32) = ((i / 32 : Nat) : Int) := by
      rw [Int.tdiv_eq_ediv_of_nonneg (by omega), wrap_in (by omega) (by simp only [kmax]; omega)]; omega
    have i2 : (i : Int).tmod 32 = ((i % 32 : Nat) : Int) := by rw [Int.tmod_eq_emod_of_nonneg (by omega)]; omega
    have hMX : M.Sublist (D ++ X) := sub_r hX
    have smu : ∀ t : Int, Sz (t % u) m.n := fun t => sz_mod su hu
    repeat (first | refine run_S ?_ | refine w_box (fun _ => ?_) | refine w_al (fun _ => ?_))
    refine st_draw [0, 1, 3, 2, 4, 5, 6, 7, 8, 9] sym (by kernel_rfl) ?_
    repeat (first | refine run_S ?_ | refine w_box (fun _ => ?_) | refine w_al (fun _ => ?_))
    refine sl_call rfl rfl rfl rfl rfl rfl (fun _ => Mul_ct (hr.at sb).rep (hr.le (smu _) hnm2) (hr.at sb).rep (hr.le (smu _) hnm2)) ?_
    rintro v U' Dh3 hU ⟨xh3, rfl, h3, rfl⟩
    refine sl_perm ?_ (perm8 (D := Dh3))
    repeat (first | refine run_S ?_ | refine w_box (fun _ => ?_) | refine w_al (fun _ => ?_))
    refine sl_call rfl rfl rfl rfl rfl rfl (fun _ => DivMod_ct (h3.at sb).rep (h3.le ((smu _).mul (smu _)) (by omega)) (hm.up hUc (hMX.trans sb)) hnm2) ?_
    rintro v Ur3 D hU ⟨xq3, xr3, ev, Dq3, Dr3, rfl, rfl, hdm, -, -⟩
    obtain ⟨rfl, q3, r3⟩ := hdm hu
    replace hUc := hUc.trans hU
    rw [List.append_assoc]
    refine sl_perm ?_ ((List.Perm.append_left Dr3 (perm8 (D := Dq3))).trans (perm8 (D := Dr3)))
    repeat (first | refine run_S ?_ | refine w_box (fun _ => ?_) | refine w_al (fun _ => ?_))
    rw [← Int.mul_emod, ← Int.pow_add] at r3
    obtain ⟨d, hdd, hbd, hp1, hcx⟩ := (hd.up hUc (hMX.trans (sub_r (sub_r (sub_r (List.Sublist.refl _)))))).get (k := i / 32) (by have := hd.len; omega)
    have hbit := digit_bit hd.bd hdd
    rw [hlE] at hbit
    replace hcx := fun G w hw => hcx G w (Mem.anti (M' := (b12, .var xr3.v, 24) :: (b11, .var xq2.v, 24) :: (b9, .var xr1.v, 24) :: (b8, .var xq1.v, 24) :: (b6, .var (.agg #[.bool false, .slice none 0 0]), 24) :: (b5, .var m.v, 24) :: (b4, .var y.v, 24) :: (b3, .var x.v, 24) :: (Dr3 ++ (Dq3 ++ (Dh3 ++ (D ++ X))))) hw (ULe.refl _) sb)
    refine sl_y (yl_index1 sym rfl rfl rfl rfl rfl (i1) (by first | omega | assumption) hp1) rfl rfl rfl rfl ?_; refine sl_y (yl_loadD sym rfl rfl rfl rfl hcx) rfl rfl rfl rfl ?_
    repeat (first | refine run_S ?_ | refine w_box (fun _ => ?_) | refine w_al (fun _ => ?_))
    refine sl_y (yl_shrN (k := .u32) (m := d) (n := i % 32) rfl rfl rfl rfl i2 (by simp only [IntKind.bits]; omega) rfl) rfl rfl rfl rfl ?_
    have hdp : d / 2 ^ (i % 32) ≤ d := Nat.div_le_self ..
    generalize hQd : d / 2 ^ (i % 32) = Qd at *
    refine sl_y (yl_and1 (k := .u32) (m := Qd) rfl rfl rfl rfl (by simp only [kmax]; omega)) rfl rfl rfl rfl ?_
    rw [hbit]
    generalize hQi : E0 / 2 ^ i = Q at *
    repeat (first | refine run_S ?_ | refine w_box (fun _ => ?_) | refine w_al (fun _ => ?_))
    refine st_eq rfl (fun h7 => ?_) (fun h7 => ?_)
    · repeat (first | refine run_S ?_ | refine w_box (fun _ => ?_) | refine w_al (fun _ => ?_))
      refine st_draw [0, 1, 3, 2, 4, 5, 6, 7, 8, 9] sym (by kernel_rfl) ?_
      repeat (first | refine run_S ?_ | refine w_box (fun _ => ?_) | refine w_al (fun _ => ?_))
      refine sl_call rfl rfl rfl rfl rfl rfl (fun _ => Mul_ct (r3.at sb).rep (r3.le (smu _) hnm2) (r1.at (hXr.trans sb)).rep (r1.le (smu _) hnm2)) ?_
      rintro v U' Dh4 hU ⟨xh4, rfl, h4, rfl⟩
      refine sl_perm ?_ (perm8 (D := Dh4))
      repeat (first | refine run_S ?_ | refine w_box (fun _ => ?_) | refine w_al (fun _ => ?_))
      refine sl_call rfl rfl rfl rfl rfl rfl (fun _ => DivMod_ct (h4.at sb).rep (h4.le ((smu _).mul (smu _)) (by omega)) (hm.up hUc (hMX.trans sb)) hnm2) ?_
      rintro v Ur4 D hU ⟨xq4, xr4, ev, Dq4, Dr4, rfl, rfl, hdm, -, -⟩
      obtain ⟨rfl, q4, r4⟩ := hdm hu
      replace hUc := hUc.trans hU
      rw [List.append_assoc]
      refine sl_perm ?_ ((List.Perm.append_left Dr4 (perm8 (D := Dq4))).trans (perm8 (D := Dr4)))
      repeat (first | refine run_S ?_ | refine w_box (fun _ => ?_) | refine w_al (fun _ => ?_))
      rw [← Int.mul_emod, ← Int.pow_succ, show (Q / 2 + Q / 2).succ = Q by omega, ← hQi] at r4
      exact sk_again (E' := [(14, .int .i64 ((i : Int) - 1)), (12, .pointer (some ⟨b12, 0, none⟩)), (9, .pointer (some ⟨b9, 0, none⟩)), (4, .pointer (some ⟨b4, 0, none⟩)), (5, .pointer (some ⟨b5, 0, none⟩)), (6, .pointer (some ⟨b6, 0, none⟩))]) (m := i) ⟨rfl, rfl, rfl, rfl, rfl, rfl, trivial⟩ (by omega)
        ⟨i, xr4, Dr4, Dq4 ++ (Dh4 ++ (Dr3 ++ (Dq3 ++ (Dh3 ++ (D ++ X))))), by omega, r4, rfl, hUc, rfl, hX.trans sb, hXr.trans sb, rfl⟩
    · repeat (first | refine run_S ?_ | refine w_box (fun _ => ?_) | refine w_al (fun _ => ?_))
      rw [show Q / 2 + Q / 2 = Q by omega, ← hQi] at r3
      exact sk_again (E' := [(14, .int .i64 ((i : Int) - 1)), (12, .pointer (some ⟨b12, 0, none⟩)), (9, .pointer (some ⟨b9, 0, none⟩)), (4, .pointer (some ⟨b4, 0, none⟩)), (5, .pointer (some ⟨b5, 0, none⟩)), (6, .pointer (some ⟨b6, 0, none⟩))]) (m := i) ⟨rfl, rfl, rfl, rfl, rfl, rfl, trivial⟩ (by omega)
        ⟨i, xr3, Dr3, Dq3 ++ (Dh3 ++ (D ++ X)), by omega, r3, rfl, hUc, rfl, hX.trans sb, hXr.trans sb, rfl⟩
  · have hj0 : j = 0 := by omega
    subst hj0
    rw [Nat.pow_zero, Nat.div_one] at hr
    repeat (first | refine run_S ?_ | refine w_box (fun _ => ?_) | refine w_al (fun _ => ?_))
    exact sk_ret D sym rfl (.cons (.cell 4 rfl rfl rfl) (.cons (.tmp rfl) .nil)) hUc (.cons _ (.cons _ (.cons _ (.cons _ (.cons _ (.cons _ (.cons _ (.cons _ (List.Sublist.append (List.Sublist.refl D) hX))))))))) (.inl rfl)
      ⟨r, 0, rfl, fun h => absurd h hu, fun _ h => absurd h he, fun _ _ => ⟨rfl, hr⟩, hUc⟩

end Go.Proofs.Ytcakainebimmdaa

/- Walks of the reference of layer 1: powers modulo an integer. -/
namespace Go.Proofs.Ytcakainebimmdaa
open Go.Hp
variable {G : World} {U : UH} {M : MH}

theorem rResidue_ct {x y m : IV} {z u : Int} {E0 : Nat} (hx : x.rep U M z) (hn : x.n ≤ 137438953472) (hy : y.rep U M (E0 : Int)) (hn' : y.n ≤ 137438953472) (hm : m.rep U M u) (hnm : m.n ≤ 137438953472) (hu : u ≠ 0) :
    Ct Try.prog 82 [x.v, y.v, m.v] G U M fun v U' D => ∃ r : IV, v = r.v ∧ r.own D (z ^ E0 % u) ∧ U = U' := by
  have hUc := ULe.refl U
  have su := hm.sz (Nat.le_refl _)
  have smu : ∀ t : Int, Sz (t % u) m.n := fun t => sz_mod su hu
  have hnm1 : m.n ≤ 274877906944 := Nat.le_trans hnm (by decide)
  have hnm2 : m.n ≤ 549755813888 := Nat.le_trans hnm (by decide)
  refine ct_of_st Try.func82 rfl rfl rfl rfl ?_
  repeat (first | refine run_S ?_ | refine w_box (fun _ => ?_) | refine w_al (fun _ => ?_))
  rename_i b3 b4 b5 b6
  refine sl_call rfl rfl rfl rfl rfl rfl (fun _ => rEuclid_ct (hx.up hUc sb) (Nat.le_trans hn (by decide)) (hm.up hUc sb) hnm1 hu) ?_
  rintro v U' D hU ⟨xq1, xr1, Dq1, Dr1, rfl, rfl, q1, r1, rfl⟩
  rw [List.append_assoc]
  refine sl_perm ?_ ((List.Perm.append_left Dr1 (perm4 (D := Dq1))).trans (perm4 (D := Dr1)))
  repeat (first | refine run_S ?_ | refine w_box (fun _ => ?_) | refine w_al (fun _ => ?_))
  rename_i b7 b8
  refine st_draw [1, 0, 2, 3, 4, 5, 6, 7, 8, 9] sym (by kernel_rfl) ?_
  repeat (first | refine run_S ?_ | refine w_box (fun _ => ?_) | refine w_al (fun _ => ?_))
  refine sl_call rfl rfl rfl rfl rfl rfl (fun _ => rOf_ct (z := 1) (by decide) (by decide)) ?_
  rintro v U' Dh1 hU ⟨xh1, rfl, h1, rfl⟩
  refine sl_perm ?_ (perm6 (D := Dh1))
  repeat (first | refine run_S ?_ | refine w_box (fun _ => ?_) | refine w_al (fun _ => ?_))
  refine sl_call rfl rfl rfl rfl rfl rfl (fun _ => rEuclid_ct (h1.at sb).rep (h1.le (k := 1) (by unfold Sz; decide) (by decide)) (hm.up hUc sb) hnm1 hu) ?_
  rintro v U' D hU ⟨xq2, xr2, Dq2, Dr2, rfl, rfl, q2, r2, rfl⟩
  rw [List.append_assoc]
  refine sl_perm ?_ ((List.Perm.append_left Dr2 (perm6 (D := Dq2))).trans (perm6 (D := Dr2)))
  repeat (first | refine run_S ?_ | refine w_box (fun _ => ?_) | refine w_al (fun _ => ?_))
  rename_i b9 b10
  obtain ⟨l, hd, hl⟩ := id hy
  have hlE : val (tl l) = E0 := by rw [val_tl, ← sg_natAbs y.neg (val l), ← hl, Int.natAbs_natCast]
  have htl := tl_length_le l
  have hll := hd.len
  refine sl_call rfl rfl rfl rfl rfl rfl (fun _ => trim_ct (hd.up hUc sb) (Nat.le_trans hn' (by decide))) ?_
  rintro v U' Dd hU ⟨qd, k, cc, rfl, od, hk, rfl⟩
  refine sl_perm ?_ (perm8 (D := Dd))
  repeat (first | refine run_S ?_ | refine w_box (fun _ => ?_) | refine w_al (fun _ => ?_))
  have hbd := (od.dig (U := U) (M := [])).bd
  generalize tl l = a at *
  have hEk : E0 < 2 ^ (32 * k) := by
    have := val_lt hbd
    rw [hlE, ← hk] at this
    rw [Nat.pow_mul]
    exact this
  refine st_perm swp8 ?_
  refine st_loop (fun m' E U' M' => ∃ (i : Nat) (r y' : IV) (D Dy X : MH), i ≤ 32 * k ∧ r.own D (z ^ (E0 % 2 ^ i) % u) ∧ y'.own Dy (z ^ (2 ^ i) % u) ∧
      E = [(12, .int .i64 (i : Int)), (11, .slice qd k cc), (10, .pointer (some ⟨b10, 0, none⟩)), (8, .pointer (some ⟨b8, 0, none⟩)), (5, .pointer (some ⟨b5, 0, none⟩)), (6, .pointer (some ⟨b6, 0, none⟩))] ∧ U = U' ∧
      M' = (b10, .var r.v, 24) :: (b9, .var xq2.v, 24) :: (b8, .var y'.v, 24) :: (b7, .var xq1.v, 24) :: (b6, .var (.agg #[.bool false, .slice none 0 0]), 24) :: (b5, .var m.v, 24) :: (b4, .var y.v, 24) :: (b3, .var x.v, 24) :: (D ++ X) ∧
      M.Sublist X ∧ Dy.Sublist X ∧ Dd.Sublist X ∧ m' = 32 * k - i) (n0 := 32 * k)
    (E0 := [(12, .int .i64 ((0 : Nat) : Int)), (11, .slice qd k cc), (10, .pointer (some ⟨b10, 0, none⟩)), (8, .pointer (some ⟨b8, 0, none⟩)), (5, .pointer (some ⟨b5, 0, none⟩)), (6, .pointer (some ⟨b6, 0, none⟩))]) ⟨rfl, rfl, rfl, rfl, rfl, rfl, trivial⟩ ?_ ?_
  · exact ⟨0, xr2, xr1, Dr2, Dr1, Dd ++ (Dq2 ++ (Dh1 ++ (Dr1 ++ (Dq1 ++ M)))), by omega, by rw [Nat.pow_zero, Nat.mod_one, Int.pow_zero]; exact r2, by rw [Nat.pow_zero, Int.pow_succ, Int.pow_zero, Int.one_mul]; exact r1, rfl, rfl, rfl, sb, sb, sb, rfl⟩
  rintro m' E U' M' ⟨i, r, y', D, Dy, X, hi, hr, hy', rfl, rfl, rfl, hX, hDy, hDd, rfl⟩
  have hk2 : k ≤ 137438953472 := by omega
  try refine run_s ?_
  refine st_dec rfl (fun h5 => ?_) (fun h5 => ?_)
  · have hik : i < 32 * k := by omega
    have i1 : IntKind.i64.wrap ((i : Int).tdiv 32) = ((i / 32 : Nat) : Int) := by
      rw [Int.tdiv_eq_ediv_of_nonneg (by omega), wrap_in (by omega) (by simp only [kmax]; omega)]; omega
    have i2 : IntKind.u64.wrap ((i : Int).tmod 32) = ((i % 32 : Nat) : Int) := by
      rw [Int.tmod_eq_emod_of_nonneg (by omega), wrap_in (by omega) (by simp only [kmax]; omega)]; omega
    have hdig : Dig U ((b10, .var r.v, 24) :: (b9, .var xq2.v, 24) :: (b8, .var y'.v, 24) :: (b7, .var xq1.v, 24) :: (b6, .var (.agg #[.bool false, .slice none 0 0]), 24) :: (b5, .var m.v, 24) :: (b4, .var y.v, 24) :: (b3, .var x.v, 24) :: (D ++ X)) qd k cc a := (od.dig (M := [])).up hUc (by rw [List.append_nil]; exact hDd.trans sb)
    obtain ⟨d, hdd, hbdd, hp1, hcx⟩ := hdig.get (k := i / 32) (by omega)
    have hbit := digit_bit hbd hdd
    rw [hlE] at hbit
    have hmod : E0 % 2 ^ (i + 1) = E0 % 2 ^ i + 2 ^ i * (E0 / 2 ^ i % 2) := Nat.mod_pow_succ
    repeat (first | refine run_O ?_ | refine w_box (fun _ => ?_) | refine w_al (fun _ => ?_))
    refine st_seq ?_
    refine st_block ?_
    refine st_seq_cut (fun E U' M' => ∃ (r : IV) (D X : MH), r.own D (z ^ (E0 % 2 ^ (i + 1)) % u) ∧ E = [(12, .int .i64 (i : Int)), (11, .slice qd k cc), (10, .pointer (some ⟨b10, 0, none⟩)), (8, .pointer (some ⟨b8, 0, none⟩)), (5, .pointer (some ⟨b5, 0, none⟩)), (6, .pointer (some ⟨b6, 0, none⟩))] ∧ U = U' ∧
      M' = (b10, .var r.v, 24) :: (b9, .var xq2.v, 24) :: (b8, .var y'.v, 24) :: (b7, .var xq1.v, 24) :: (b6, .var (.agg #[.bool false, .slice none 0 0]), 24) :: (b5, .var m.v, 24) :: (b4, .var y.v, 24) :: (b3, .var x.v, 24) :: (D ++ X) ∧ M.Sublist X ∧ Dy.Sublist X ∧ Dd.Sublist X) ?_ ?_
    · repeat (first | refine run_S ?_ | refine w_box (fun _ => ?_) | refine w_al (fun _ => ?_))
      refine sl_y (yl_index1 sym rfl rfl rfl rfl rfl (i1) (by first | omega | assumption) hp1) rfl rfl rfl rfl ?_; refine sl_y (yl_loadD sym rfl rfl rfl rfl hcx) rfl rfl rfl rfl ?_
      repeat (first | refine run_S ?_ | refine w_box (fun _ => ?_) | refine w_al (fun _ => ?_))
      refine sl_y (yl_shrN (k := .u32) (m := d) (n := i % 32) rfl rfl rfl rfl i2 (by simp only [IntKind.bits]; omega) rfl) rfl rfl rfl rfl ?_
      rw [← hbit] at hmod
      have hdp : d / 2 ^ (i % 32) ≤ d := Nat.div_le_self ..
      generalize hQd : d / 2 ^ (i % 32) = Qd at *
      have i3 : (Qd : Int).tmod 2 = ((Qd % 2 : Nat) : Int) := by rw [Int.tmod_eq_emod_of_nonneg (by omega)]; omega
      repeat (first | refine run_S ?_ | refine w_box (fun _ => ?_) | refine w_al (fun _ => ?_))
      rw [i3]
      refine st_eq rfl (fun h7 => ?_) (fun h7 => ?_)
      · repeat (first | refine run_S ?_ | refine w_box (fun _ => ?_) | refine w_al (fun _ => ?_))
        refine st_draw [0, 1, 3, 2, 4, 5, 6, 7, 8] sym (by kernel_rfl) ?_
        repeat (first | refine run_S ?_ | refine w_box (fun _ => ?_) | refine w_al (fun _ => ?_))
        refine sl_call rfl rfl rfl rfl rfl rfl (fun _ => rMul_ct (hr.at sb).rep (hr.le (smu _) hnm2) (hy'.at (hDy.trans sb)).rep (hy'.le (smu _) hnm2)) ?_
        rintro v U' Dh4 hU ⟨xh4, rfl, h4, rfl⟩
        refine sl_perm ?_ (perm8 (D := Dh4))
        repeat (first | refine run_S ?_ | refine w_box (fun _ => ?_) | refine w_al (fun _ => ?_))
        refine sl_call rfl rfl rfl rfl rfl rfl (fun _ => rEuclid_ct (h4.at sb).rep (h4.le ((smu _).mul (smu _)) (by omega)) (hm.up hUc (hX.trans sb)) hnm1 hu) ?_
        rintro v U' D hU ⟨xq4, xr4, Dq4, Dr4, rfl, rfl, q4, r4, rfl⟩
        rw [List.append_assoc]
        refine sl_perm ?_ ((List.Perm.append_left Dr4 (perm8 (D := Dq4))).trans (perm8 (D := Dr4)))
        repeat (first | refine run_S ?_ | refine w_box (fun _ => ?_) | refine w_al (fun _ => ?_))
        rw [← Int.mul_emod, ← Int.pow_add] at r4
        exact sk_cut (E' := [(12, .int .i64 (i : Int)), (11, .slice qd k cc), (10, .pointer (some ⟨b10, 0, none⟩)), (8, .pointer (some ⟨b8, 0, none⟩)), (5, .pointer (some ⟨b5, 0, none⟩)), (6, .pointer (some ⟨b6, 0, none⟩))]) ⟨rfl, rfl, rfl, rfl, rfl, rfl, trivial⟩
          ⟨xr4, Dr4, Dq4 ++ (Dh4 ++ (D ++ X)), by rw [hmod, show Qd % 2 = 1 by omega, Nat.mul_one]; exact r4, rfl, rfl, rfl, hX.trans sb, hDy.trans sb, hDd.trans sb⟩
      · repeat (first | refine run_S ?_ | refine w_box (fun _ => ?_) | refine w_al (fun _ => ?_))
        exact sk_cut (E' := [(12, .int .i64 (i : Int)), (11, .slice qd k cc), (10, .pointer (some ⟨b10, 0, none⟩)), (8, .pointer (some ⟨b8, 0, none⟩)), (5, .pointer (some ⟨b5, 0, none⟩)), (6, .pointer (some ⟨b6, 0, none⟩))]) ⟨rfl, rfl, rfl, rfl, rfl, rfl, trivial⟩
          ⟨r, D, X, by rw [hmod, show Qd % 2 = 0 by omega, Nat.mul_zero, Nat.add_zero]; exact hr, rfl, rfl, rfl, hX, hDy, hDd⟩
    clear hr hX hDd hdig hcx
    rintro E U' M' ⟨r, D, X, hr, rfl, rfl, rfl, hX, hDy2, hDd⟩
    repeat (first | refine run_S ?_ | refine w_box (fun _ => ?_) | refine w_al (fun _ => ?_))
    refine st_draw [0, 1, 3, 2, 4, 5, 6, 7, 8] sym (by kernel_rfl) ?_
    repeat (first | refine run_S ?_ | refine w_box (fun _ => ?_) | refine w_al (fun _ => ?_))
    refine sl_call rfl rfl rfl rfl rfl rfl (fun _ => rMul_ct (hy'.at (hDy2.trans sb)).rep (hy'.le (smu _) hnm2) (hy'.at (hDy2.trans sb)).rep (hy'.le (smu _) hnm2)) ?_
    rintro v U' Dh5 hU ⟨xh5, rfl, h5, rfl⟩
    refine sl_perm ?_ (perm8 (D := Dh5))
    repeat (first | refine run_S ?_ | refine w_box (fun _ => ?_) | refine w_al (fun _ => ?_))
    refine sl_call rfl rfl rfl rfl rfl rfl (fun _ => rEuclid_ct (h5.at sb).rep (h5.le ((smu _).mul (smu _)) (by omega)) (hm.up hUc (hX.trans sb)) hnm1 hu) ?_
    rintro v U' D hU ⟨xq5, xr5, Dq5, Dr5, rfl, rfl, q5, r5, rfl⟩
    rw [List.append_assoc]
    refine sl_perm ?_ ((List.Perm.append_left Dr5 (perm8 (D := Dq5))).trans (perm8 (D := Dr5)))
    repeat (first | refine run_S ?_ | refine w_box (fun _ => ?_) | refine w_al (fun _ => ?_))
    rw [← Int.mul_emod, ← Int.pow_add, ← Nat.two_mul, ← Nat.pow_succ'] at r5
    refine sk_perm (M' := (b10, .var r.v, 24) :: (b9, .var xq2.v, 24) :: (b8, .var xr5.v, 24) :: (b7, .var xq1.v, 24) :: (b6, .var (.agg #[.bool false, .slice none 0 0]), 24) :: (b5, .var m.v, 24) :: (b4, .var y.v, 24) :: (b3, .var x.v, 24) :: (D ++ (Dr5 ++ (Dq5 ++ (Dh5 ++ X))))) ?_ ?_
    · refine List.Perm.cons _ (List.Perm.cons _ (List.Perm.cons _ (List.Perm.cons _ (List.Perm.cons _ (List.Perm.cons _ (List.Perm.cons _ (List.Perm.cons _ ?_)))))))
      exact ((List.Perm.append_left Dr5 ((List.Perm.append_left Dq5 (List.perm_append_comm_assoc ..)).trans (List.perm_append_comm_assoc ..))).trans (List.perm_append_comm_assoc ..))
    exact sk_again (E' := [(12, .int .i64 ((i : Int) + 1)), (11, .slice qd k cc), (10, .pointer (some ⟨b10, 0, none⟩)), (8, .pointer (some ⟨b8, 0, none⟩)), (5, .pointer (some ⟨b5, 0, none⟩)), (6, .pointer (some ⟨b6, 0, none⟩))]) (m := 32 * k - (i + 1)) ⟨rfl, rfl, rfl, rfl, rfl, rfl, trivial⟩ (by omega)
      ⟨i + 1, r, xr5, D, Dr5, Dr5 ++ (Dq5 ++ (Dh5 ++ X)), by omega, hr, r5, rfl, rfl, rfl, hX.trans sb, sb, hDd.trans sb, rfl⟩
  · have hik : i = 32 * k := by omega
    subst hik
    rw [Nat.mod_eq_of_lt hEk] at hr
    repeat (first | refine run_S ?_ | refine w_box (fun _ => ?_) | refine w_al (fun _ => ?_))
    exact sk_ret D sym rfl (.cons (.cell 4 rfl rfl rfl) .nil) hUc (.cons _ (.cons _ (.cons _ (.cons _ (.cons _ (.cons _ (.cons _ (.cons _ (List.Sublist.append (List.Sublist.refl D) hX))))))))) (.inl rfl) ⟨r, rfl, hr, rfl⟩

end Go.Proofs.Ytcakainebimmdaa
