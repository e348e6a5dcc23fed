/- Texts of this seat's own, merged: each begins with its own remark. -/
import Derived.Test.YtlnmhjkagnfnaaaM7
import Derived.Test.YtlnmhjkagnfnaaaM5
import Derived.Test.YtlnmhjkagnfnaaaM4
/- Walks: powers of integers. -/
namespace Go.Proofs.Ytlnmhjkagnfnaaa
open Go.Hp
variable {G : World} {U : UH} {M : MH}

/-- The lowest binary digit. -/
theorem yl_and1 {P : Program} {N : Nat} {E : Env} {o : Oper} {ty yt : Nat} {x y : Operand} {k : IntKind} {a : Int} {m : Nat} (ho : o.op = .binOp .and ty x y yt) (hx : ev E x = some (.int k a)) (hy : ev E y = some (.int k 1)) (ha : a = (m : Int)) (hm : (m : Int) ≤ kmax k) :
    Yl P N G o E U M (.int k ((m % 2 : Nat) : Int)) := by
  refine yl_bin ho hx hy (funext fun w => ?_)
  subst ha
  have h1 : (BitVec.ofInt k.bits (m : Int) &&& BitVec.ofInt k.bits 1).toNat = m % 2 := by
    have e1 : BitVec.ofInt k.bits (m : Int) = BitVec.ofNat k.bits m := BitVec.ofInt_natCast ..
    have e2 : BitVec.ofInt k.bits 1 = BitVec.ofNat k.bits 1 := BitVec.ofInt_natCast k.bits 1
    rw [e1, e2, BitVec.toNat_and, BitVec.toNat_ofNat, BitVec.toNat_ofNat]
    cases k <;> simp only [IntKind.bits] <;> simp only [kmax] at hm
    all_goals
      rw [Nat.mod_eq_of_lt (by omega), Nat.mod_eq_of_lt (by decide), Nat.and_one_is_mod]
  simp only [binOp, ne_eq, not_true_eq_false, if_false, Op.intBits]
  show Result.ok (Value.int k (k.wrap (((BitVec.ofInt k.bits (m : Int) &&& BitVec.ofInt k.bits 1).toNat : Nat) : Int))) w = _
  rw [h1, wrap_in (by omega) (by cases k <;> simp only [kmax] <;> omega)]

theorem sz_pow {z : Int} {b j n K : Nat} (hb : blen z.natAbs = b) (hj : j ≤ n) (h : b * n ≤ 32 * K) : Sz (z ^ j) (K + 1) := by
  unfold Sz
  have h1 := blen_lt z.natAbs
  rw [hb] at h1
  rw [Int.natAbs_pow]
  have h2 : z.natAbs ^ j ≤ (2 ^ b) ^ j := Nat.pow_le_pow_left (Nat.le_of_lt h1) j
  rw [← Nat.pow_mul] at h2
  have h3 : b * j ≤ b * n := Nat.mul_le_mul_left _ hj
  have h4 : 2 ^ (b * j) < 2 ^ (32 * (K + 1)) := Nat.pow_lt_pow_right (by decide) (by omega)
  have h5 : (4294967296 : Nat) ^ (K + 1) = 2 ^ (32 * (K + 1)) := by
    rw [Nat.pow_mul]
  omega

theorem pow_short {z : Int} (hz : blen z.natAbs ≤ 1) : ∀ n : Nat, 2 ≤ n → z ^ n = z ^ (2 + n % 2) := by
  have h1 := blen_lt z.natAbs
  have h2 : z.natAbs < 2 := Nat.lt_of_lt_of_le h1 (Nat.pow_le_pow_right (n := 2) (by decide) hz)
  have h3 : z = 0 ∨ z = 1 ∨ z = -1 := by omega
  have h4 : ∀ k : Nat, z ^ (k + 1 + 2) = z ^ (k + 1) := by
    intro k
    have e : z ^ 2 * z = z := by rcases h3 with rfl | rfl | rfl <;> decide
    rw [Int.pow_add, Int.pow_succ, Int.mul_assoc, Int.mul_comm z, e]
  intro n
  induction n using Nat.strongRecOn with
  | ind n ih =>
    intro hn
    by_cases h5 : n ≤ 3
    · rcases (show n = 2 ∨ n = 3 by omega) with rfl | rfl <;> rfl
    · have e1 := ih (n - 2) (by omega) (by omega)
      have e2 := h4 (n - 3)
      rw [show n - 3 + 1 + 2 = n by omega, show n - 3 + 1 = n - 2 by omega] at e2
      rw [e2, e1, show (n - 2) % 2 = n % 2 by omega]

theorem Pow_ct {x : IV} {z n : Int} (hx : x.rep U M z) (hn : x.n ≤ 274877906944) (h0 : -9223372036854775808 ≤ n) (h1 : n ≤ 9223372036854775807) :
    Ct Try.prog 71 [x.v, .int .i64 n] G U M fun v U' D => ∃ (r : IV) (e : Int), v = .tuple #[r.v, .int .i64 e] ∧ (n < 0 → e = 2 ∧ r = zeroIV ∧ D = []) ∧
      (0 ≤ n → 1 < blen z.natAbs → 1048576 / blen z.natAbs < n.toNat → e = 7 ∧ r = zeroIV ∧ D = []) ∧ (0 ≤ n → ¬ (1 < blen z.natAbs ∧ 1048576 / blen z.natAbs < n.toNat) → e = 0 ∧ r.own D (z ^ n.toNat)) ∧ U = U' := by
  have hUc := ULe.refl U
  have hbz : blen z.natAbs ≤ 32 * x.n := by
    obtain ⟨l, hd, rfl⟩ := hx
    rw [sg_natAbs, ← hd.len]
    exact blen_val_le hd.bd
  refine ct_of_st Try.func71 rfl rfl rfl rfl ?_
  repeat (first | refine run_S ?_ | refine w_box (fun _ => ?_) | refine w_al (fun _ => ?_))
  rename_i b2 b4
  refine st_dec rfl (fun hneg => ?_) (fun hneg => ?_)
  · repeat (first | refine run_S ?_ | refine w_box (fun _ => ?_) | refine w_al (fun _ => ?_))
    exact sk_ret [] sym rfl (.cons (.cell 0 rfl rfl rfl) (.cons (.tmp rfl) .nil)) hUc sb (.inl rfl) ⟨zeroIV, 2, rfl, fun _ => ⟨rfl, rfl, rfl⟩, fun h => absurd hneg (by omega), fun h => absurd hneg (by omega), rfl⟩
  obtain ⟨m, rfl⟩ : ∃ m : Nat, n = (m : Int) := ⟨n.toNat, by omega⟩
  simp only [Int.toNat_natCast]
  generalize hB : blen z.natAbs = B at *
  repeat (first | refine run_O ?_ | refine w_box (fun _ => ?_) | refine w_al (fun _ => ?_))
  refine st_seq ?_
  repeat (first | refine run_O ?_ | refine w_box (fun _ => ?_) | refine w_al (fun _ => ?_))
  refine sl_call rfl rfl rfl rfl rfl rfl (fun _ => Bits_ct (hx.up hUc sb) (Nat.le_trans hn (by decide))) ?_
  rintro v U' D hU ⟨rfl, rfl, rfl⟩
  rw [hB]
  repeat (first | refine run_O ?_ | refine w_box (fun _ => ?_) | refine w_al (fun _ => ?_))
  refine st_seq_cut (fun E U' M' => (B ≤ 1 ∨ B * m ≤ 1048576) ∧ E = [(6, .int .i64 (B : Int)), (1, .int .i64 (m : Int)), (2, .pointer (some ⟨b2, 0, none⟩)), (4, .pointer (some ⟨b4, 0, none⟩))] ∧ U = U' ∧
    M' = (b4, .var (.agg #[.bool false, .slice none 0 0]), 24) :: (b2, .var x.v, 24) :: M) ?_ ?_
  · repeat (first | refine run_S ?_ | refine w_box (fun _ => ?_) | refine w_al (fun _ => ?_))
    refine sl_gdec rfl rfl (fun h2 => ?_) (fun h2 => ?_)
    · repeat (first | refine run_S ?_ | refine w_box (fun _ => ?_) | refine w_al (fun _ => ?_))
      refine sl_y (yl_quoN (k := .i64) (m := 1048576) (n := B) rfl rfl rfl rfl rfl (by simp only [kmax]; omega) (by omega) rfl) rfl rfl rfl rfl ?_
      repeat (first | refine run_S ?_ | refine w_box (fun _ => ?_) | refine w_al (fun _ => ?_))
      refine st_dec rfl (fun h3 => ?_) (fun h3 => ?_)
      · repeat (first | refine run_S ?_ | refine w_box (fun _ => ?_) | refine w_al (fun _ => ?_))
        exact sk_ret [] sym rfl (.cons (.cell 0 rfl rfl rfl) (.cons (.tmp rfl) .nil)) hUc sb (.inl rfl) ⟨zeroIV, 7, rfl, fun h => by omega, fun _ _ _ => ⟨rfl, rfl, rfl⟩, fun _ h => absurd ⟨by omega, by omega⟩ h, rfl⟩
      · repeat (first | refine run_S ?_ | refine w_box (fun _ => ?_) | refine w_al (fun _ => ?_))
        refine sk_cut (E' := [(6, .int .i64 (B : Int)), (1, .int .i64 (m : Int)), (2, .pointer (some ⟨b2, 0, none⟩)), (4, .pointer (some ⟨b4, 0, none⟩))]) ⟨rfl, rfl, rfl, rfl, trivial⟩ ⟨.inr ?_, rfl, rfl, rfl⟩
        have h4 : m ≤ 1048576 / B := by omega
        have h5 := Nat.mul_le_mul_left B h4
        exact Nat.le_trans h5 (Nat.mul_div_le ..)
    · repeat (first | refine run_S ?_ | refine w_box (fun _ => ?_) | refine w_al (fun _ => ?_))
      exact sk_cut (E' := [(6, .int .i64 (B : Int)), (1, .int .i64 (m : Int)), (2, .pointer (some ⟨b2, 0, none⟩)), (4, .pointer (some ⟨b4, 0, none⟩))]) ⟨rfl, rfl, rfl, rfl, trivial⟩ ⟨.inl (by omega), rfl, rfl, rfl⟩
  rintro E U' M' ⟨hBm, rfl, rfl, rfl⟩
  refine st_seq_cut (fun E U' M' => ∃ k : Nat, z ^ k = z ^ m ∧ B * k ≤ 1048576 ∧ k ≤ m ∧ E = [(1, .int .i64 (k : Int)), (2, .pointer (some ⟨b2, 0, none⟩)), (4, .pointer (some ⟨b4, 0, none⟩))] ∧ U = U' ∧
    M' = (b4, .var (.agg #[.bool false, .slice none 0 0]), 24) :: (b2, .var x.v, 24) :: M) ?_ ?_
  · repeat (first | refine run_S ?_ | refine w_box (fun _ => ?_) | refine w_al (fun _ => ?_))
    refine st_dec rfl (fun h2 => ?_) (fun h2 => ?_)
    · repeat (first | refine run_S ?_ | refine w_box (fun _ => ?_) | refine w_al (fun _ => ?_))
      have w1 : IntKind.i64.wrap (2 + (m : Int).tmod 2) = ((2 + m % 2 : Nat) : Int) := by
        rw [Int.tmod_eq_emod_of_nonneg (by omega), wrap_in (by omega) (by simp only [kmax]; omega)]; omega
      rw [w1]
      by_cases h3 : 2 + m % 2 < m
      · rw [if_pos (by omega)]
        refine sk_cut (E' := [(1, .int .i64 ((2 + m % 2 : Nat) : Int)), (2, .pointer (some ⟨b2, 0, none⟩)), (4, .pointer (some ⟨b4, 0, none⟩))]) ⟨rfl, rfl, rfl, trivial⟩ ⟨2 + m % 2, (pow_short (by omega) m (by omega)).symm, ?_, by omega, rfl, rfl, rfl⟩
        have := Nat.mul_le_mul_right (2 + m % 2) (show B ≤ 1 by omega)
        omega
      · rw [if_neg (by omega)]
        refine sk_cut (E' := [(1, .int .i64 (m : Int)), (2, .pointer (some ⟨b2, 0, none⟩)), (4, .pointer (some ⟨b4, 0, none⟩))]) ⟨rfl, rfl, rfl, trivial⟩ ⟨m, rfl, ?_, Nat.le_refl _, rfl, rfl, rfl⟩
        have := Nat.mul_le_mul_right m (show B ≤ 1 by omega)
        omega
    · repeat (first | refine run_S ?_ | refine w_box (fun _ => ?_) | refine w_al (fun _ => ?_))
      exact sk_cut (E' := [(1, .int .i64 (m : Int)), (2, .pointer (some ⟨b2, 0, none⟩)), (4, .pointer (some ⟨b4, 0, none⟩))]) ⟨rfl, rfl, rfl, trivial⟩ ⟨m, rfl, by omega, Nat.le_refl _, rfl, rfl, rfl⟩
  rintro E U' M' ⟨k, hk, hBk, hkm, rfl, rfl, rfl⟩
  have hbk : blen k ≤ 64 := blen_le_of (k := 64) (by omega)
  have hkz : k / 2 ^ blen k = 0 := Nat.div_eq_of_lt (blen_lt k)
  repeat (first | refine run_S ?_ | refine w_box (fun _ => ?_) | refine w_al (fun _ => ?_))
  refine sl_call rfl rfl rfl rfl rfl rfl (fun _ => Of_ct (z := 1) (by decide) (by decide)) ?_
  rintro v U' Dh2 hU ⟨xh2, rfl, h2, rfl⟩
  refine sl_perm ?_ (perm2 (D := Dh2))
  repeat (first | refine run_S ?_ | refine w_box (fun _ => ?_) | refine w_al (fun _ => ?_))
  rename_i b7
  refine sl_call rfl rfl rfl rfl rfl rfl (fun _ => Len_ct (x := k) (by omega)) ?_
  rintro v U' D hU ⟨rfl, rfl, rfl⟩
  repeat (first | refine run_S ?_ | refine w_box (fun _ => ?_) | refine w_al (fun _ => ?_))
  refine st_loop (fun m' E U' M' => ∃ (j : Nat) (r : IV) (D X : MH), j ≤ blen k ∧ r.own D (z ^ (k / 2 ^ j)) ∧ E = [(8, .int .i64 ((j : Int) - 1)), (7, .pointer (some ⟨b7, 0, none⟩)), (1, .int .i64 (k : Int)), (2, .pointer (some ⟨b2, 0, none⟩)), (4, .pointer (some ⟨b4, 0, none⟩))] ∧ U = U' ∧
      M' = (b7, .var r.v, 24) :: (b4, .var (.agg #[.bool false, .slice none 0 0]), 24) :: (b2, .var x.v, 24) :: (D ++ X) ∧ M.Sublist X ∧ j = m') (n0 := blen k)
    (E0 := [(8, .int .i64 ((blen k : Int) - 1)), (7, .pointer (some ⟨b7, 0, none⟩)), (1, .int .i64 (k : Int)), (2, .pointer (some ⟨b2, 0, none⟩)), (4, .pointer (some ⟨b4, 0, none⟩))]) ⟨rfl, rfl, rfl, rfl, rfl, trivial⟩
    ⟨blen k, xh2, Dh2, M, Nat.le_refl _, by rw [hkz, Int.pow_zero]; exact h2, rfl, rfl, rfl, List.Sublist.refl _, rfl⟩ ?_
  clear h2
  rintro m' E U' M' ⟨j, r, D, X, hj, hr, rfl, rfl, rfl, hX, rfl⟩
  try refine run_s ?_
  refine st_dec rfl (fun h5 => ?_) (fun h5 => ?_)
  · obtain ⟨i, rfl⟩ : ∃ i, j = i + 1 := ⟨j - 1, by omega⟩
    rw [show ((i + 1 : Nat) : Int) - 1 = (i : Int) by omega]
    have hQ : k / 2 ^ (i + 1) = k / 2 ^ i / 2 := by rw [Nat.pow_succ, Nat.div_div_eq_div_mul]
    have hQk : k / 2 ^ i ≤ k := Nat.div_le_self ..
    rw [hQ] at hr
    generalize hQi : k / 2 ^ i = Q at *
    have s1 := sz_pow (K := 32768) hB (show Q / 2 ≤ k by omega) hBk
    repeat (first | refine run_S ?_ | refine w_box (fun _ => ?_) | refine w_al (fun _ => ?_))
    refine sl_call rfl rfl rfl rfl rfl rfl (fun _ => Mul_ct (hr.at sb).rep (hr.le s1 (by decide)) (hr.at sb).rep (hr.le s1 (by decide))) ?_
    rintro v U' Dh6 hU ⟨xh6, rfl, h6, rfl⟩
    refine sl_perm ?_ (perm3 (D := Dh6))
    repeat (first | refine run_S ?_ | refine w_box (fun _ => ?_) | refine w_al (fun _ => ?_))
    rw [← Int.pow_add] at h6
    have s2 := sz_pow (K := 32768) hB (show Q / 2 + Q / 2 ≤ k by omega) hBk
    refine sl_y (yl_shrN (m := k) (n := i) rfl rfl rfl rfl rfl (by simp only [IntKind.bits]; omega) hQi) rfl rfl rfl rfl ?_
    repeat (first | refine run_S ?_ | refine w_box (fun _ => ?_) | refine w_al (fun _ => ?_))
    refine sl_y (yl_and1 (k := .i64) (m := Q) rfl rfl rfl rfl (by simp only [kmax]; omega)) rfl rfl rfl rfl ?_
    repeat (first | refine run_S ?_ | refine w_box (fun _ => ?_) | refine w_al (fun _ => ?_))
    refine st_eq rfl (fun h7 => ?_) (fun h7 => ?_)
    · repeat (first | refine run_S ?_ | refine w_box (fun _ => ?_) | refine w_al (fun _ => ?_))
      refine sl_call rfl rfl rfl rfl rfl rfl (fun _ => Mul_ct (h6.at sb).rep (h6.le s2 (by decide)) (hx.up hUc ((hX.trans (sub_r (sub_r (List.Sublist.refl _)))).trans sb)) (Nat.le_trans hn (by decide))) ?_
      rintro v U' Dh8 hU ⟨xh8, rfl, h8, rfl⟩
      refine sl_perm ?_ (perm3 (D := Dh8))
      repeat (first | refine run_S ?_ | refine w_box (fun _ => ?_) | refine w_al (fun _ => ?_))
      rw [← Int.pow_succ, show (Q / 2 + Q / 2).succ = Q by omega, ← hQi] at h8
      exact sk_again (E' := [(8, .int .i64 ((i : Int) - 1)), (7, .pointer (some ⟨b7, 0, none⟩)), (1, .int .i64 (k : Int)), (2, .pointer (some ⟨b2, 0, none⟩)), (4, .pointer (some ⟨b4, 0, none⟩))]) (m := i) ⟨rfl, rfl, rfl, rfl, rfl, trivial⟩ (by omega)
        ⟨i, xh8, Dh8, Dh6 ++ (D ++ X), by omega, h8, rfl, rfl, rfl, sub_r (sub_r hX), rfl⟩
    · repeat (first | refine run_S ?_ | refine w_box (fun _ => ?_) | refine w_al (fun _ => ?_))
      rw [show Q / 2 + Q / 2 = Q by omega, ← hQi] at h6
      exact sk_again (E' := [(8, .int .i64 ((i : Int) - 1)), (7, .pointer (some ⟨b7, 0, none⟩)), (1, .int .i64 (k : Int)), (2, .pointer (some ⟨b2, 0, none⟩)), (4, .pointer (some ⟨b4, 0, none⟩))]) (m := i) ⟨rfl, rfl, rfl, rfl, rfl, trivial⟩ (by omega)
        ⟨i, xh6, Dh6, D ++ X, by omega, h6, rfl, rfl, rfl, sub_r hX, rfl⟩
  · have hj0 : j = 0 := by omega
    subst hj0
    rw [Nat.pow_zero, Nat.div_one, hk] at hr
    repeat (first | refine run_S ?_ | refine w_box (fun _ => ?_) | refine w_al (fun _ => ?_))
    exact sk_ret D sym rfl (.cons (.cell 1 rfl rfl rfl) (.cons (.tmp rfl) .nil)) hUc (.cons _ (.cons _ (.cons _ (List.Sublist.append (List.Sublist.refl D) hX)))) (.inl rfl)
      ⟨r, 0, rfl, fun h => absurd h hneg, fun _ g1 g2 => by
        have h4 : 1048576 < B * m := by
          have := Nat.div_add_mod 1048576 B
          have h6 := Nat.mod_lt 1048576 (show 0 < B by omega)
          have h7 : B * (1048576 / B + 1) ≤ B * m := Nat.mul_le_mul_left _ g2
          rw [Nat.mul_add] at h7
          omega
        omega, fun _ _ => ⟨rfl, hr⟩, rfl⟩

end Go.Proofs.Ytlnmhjkagnfnaaa

/- Walks of the reference of layer 1: powers. -/
namespace Go.Proofs.Ytlnmhjkagnfnaaa
open Go.Hp
variable {G : World} {U : UH} {M : MH}

theorem rRaised_ct {x : IV} {z : Int} {m K : Nat} (hx : x.rep U M z) (hn : x.n ≤ 549755813888) (hm : m ≤ 9223372036854775807) (hK : blen z.natAbs * m ≤ 32 * K) (hK2 : K + 1 ≤ 549755813888) :
    Ct Try.prog 57 [x.v, .int .i64 (m : Int)] G U M fun v U' D => ∃ r : IV, v = r.v ∧ r.own D (z ^ m) ∧ U = U' := by
  have hUc := ULe.refl U
  generalize hB : blen z.natAbs = B at *
  refine ct_of_st Try.func57 rfl rfl rfl rfl ?_
  repeat (first | refine run_S ?_ | refine w_box (fun _ => ?_) | refine w_al (fun _ => ?_))
  rename_i b2 b4
  refine sl_call rfl rfl rfl rfl rfl rfl (fun _ => rOf_ct (z := 1) (by decide) (by decide)) ?_
  rintro v U' Dh2 hU ⟨xh2, rfl, h2, rfl⟩
  refine sl_perm ?_ (perm2 (D := Dh2))
  repeat (first | refine run_S ?_ | refine w_box (fun _ => ?_) | refine w_al (fun _ => ?_))
  rename_i b5
  refine st_loop (fun m' E U' M' => ∃ (nc p c : Nat) (r y : IV) (D X : MH), p + c * nc = m ∧ 1 ≤ c ∧ r.own D (z ^ p) ∧ y.rep U (D ++ X) (z ^ c) ∧ y.n ≤ 549755813888 ∧
      E = [(5, .pointer (some ⟨b5, 0, none⟩)), (1, .int .i64 (nc : Int)), (2, .pointer (some ⟨b2, 0, none⟩)), (4, .pointer (some ⟨b4, 0, none⟩))] ∧ U = U' ∧
      M' = (b5, .var r.v, 24) :: (b4, .var (.agg #[.bool false, .slice none 0 0]), 24) :: (b2, .var y.v, 24) :: (D ++ X) ∧ M.Sublist X ∧ nc = m') (n0 := m)
    (E0 := [(5, .pointer (some ⟨b5, 0, none⟩)), (1, .int .i64 (m : Int)), (2, .pointer (some ⟨b2, 0, none⟩)), (4, .pointer (some ⟨b4, 0, none⟩))]) ⟨rfl, rfl, rfl, rfl, trivial⟩
    ⟨m, 0, 1, xh2, x, Dh2, M, by omega, Nat.le_refl _, by rw [Int.pow_zero]; exact h2, by rw [Int.pow_succ, Int.pow_zero, Int.one_mul]; exact hx.up hUc sb, hn, rfl, rfl, rfl, List.Sublist.refl _, rfl⟩ ?_
  clear h2
  rintro m' E U' M' ⟨nc, p, c, r, y, D, X, hp, hc1, hr, hy, hyn, rfl, rfl, rfl, hX, rfl⟩
  try refine run_s ?_
  refine st_dec rfl (fun h5 => ?_) (fun h5 => ?_)
  · have hcn : c ≤ c * nc := Nat.le_mul_of_pos_right c (by omega)
    have hncm : nc ≤ c * nc := Nat.le_mul_of_pos_left nc (by omega)
    have i1 : (nc : Int).tmod 2 = ((nc % 2 : Nat) : Int) := by rw [Int.tmod_eq_emod_of_nonneg (by omega)]; omega
    have hdm : c * nc = c * (nc % 2) + c * (2 * (nc / 2)) := by rw [← Nat.mul_add, Nat.mod_add_div]
    have sp := sz_pow (K := K) hB (show p ≤ m by omega) hK
    repeat (first | refine run_O ?_ | refine w_box (fun _ => ?_) | refine w_al (fun _ => ?_))
    refine st_block ?_
    refine st_seq_cut (fun E U' M' => ∃ (p' : Nat) (r : IV) (D X : MH), p' + c * (2 * (nc / 2)) = m ∧ r.own D (z ^ p') ∧ y.rep U (D ++ X) (z ^ c) ∧
      E = [(5, .pointer (some ⟨b5, 0, none⟩)), (1, .int .i64 (nc : Int)), (2, .pointer (some ⟨b2, 0, none⟩)), (4, .pointer (some ⟨b4, 0, none⟩))] ∧ U = U' ∧
      M' = (b5, .var r.v, 24) :: (b4, .var (.agg #[.bool false, .slice none 0 0]), 24) :: (b2, .var y.v, 24) :: (D ++ X) ∧ M.Sublist X) ?_ ?_
    · repeat (first | refine run_S ?_ | refine w_box (fun _ => ?_) | refine w_al (fun _ => ?_))
      rw [i1]
      refine st_eq rfl (fun h6 => ?_) (fun h6 => ?_)
      · repeat (first | refine run_S ?_ | refine w_box (fun _ => ?_) | refine w_al (fun _ => ?_))
        refine sl_call rfl rfl rfl rfl rfl rfl (fun _ => rMul_ct (hr.at sb).rep (hr.le sp hK2) (hy.up hUc sb) hyn) ?_
        rintro v U' Dh6 hU ⟨xh6, rfl, h6, rfl⟩
        refine sl_perm ?_ (perm3 (D := Dh6))
        repeat (first | refine run_S ?_ | refine w_box (fun _ => ?_) | refine w_al (fun _ => ?_))
        rw [← Int.pow_add] at h6
        exact sk_cut (E' := [(5, .pointer (some ⟨b5, 0, none⟩)), (1, .int .i64 (nc : Int)), (2, .pointer (some ⟨b2, 0, none⟩)), (4, .pointer (some ⟨b4, 0, none⟩))]) ⟨rfl, rfl, rfl, rfl, trivial⟩
          ⟨p + c, xh6, Dh6, D ++ X, by rw [show nc % 2 = 1 by omega, Nat.mul_one] at hdm; omega, h6, hy.up hUc sb, rfl, rfl, rfl, sub_r hX⟩
      · repeat (first | refine run_S ?_ | refine w_box (fun _ => ?_) | refine w_al (fun _ => ?_))
        exact sk_cut (E' := [(5, .pointer (some ⟨b5, 0, none⟩)), (1, .int .i64 (nc : Int)), (2, .pointer (some ⟨b2, 0, none⟩)), (4, .pointer (some ⟨b4, 0, none⟩))]) ⟨rfl, rfl, rfl, rfl, trivial⟩
          ⟨p, r, D, X, by rw [show nc % 2 = 0 by omega, Nat.mul_zero] at hdm; omega, hr, hy, rfl, rfl, rfl, hX⟩
    clear hr hX hy sp
    rintro E U' M' ⟨p', r, D, X, hp', hr, hy, rfl, rfl, rfl, hX⟩
    have i2 : IntKind.i64.wrap ((nc : Int).tdiv 2) = ((nc / 2 : Nat) : Int) := by
      rw [Int.tdiv_eq_ediv_of_nonneg (by omega), wrap_in (by omega) (by simp only [kmax]; omega)]; omega
    repeat (first | refine run_S ?_ | refine w_box (fun _ => ?_) | refine w_al (fun _ => ?_))
    rw [i2]
    refine st_dec rfl (fun h6 => ?_) (fun h6 => ?_)
    · have h7 : c * 2 ≤ c * (2 * (nc / 2)) := Nat.mul_le_mul_left _ (by omega)
      have sc := sz_pow (K := K) hB (show c ≤ m by omega) hK
      have sc2 := sz_pow (K := K) hB (show c + c ≤ m by omega) hK
      repeat (first | refine run_S ?_ | refine w_box (fun _ => ?_) | refine w_al (fun _ => ?_))
      refine sl_call rfl rfl rfl rfl rfl rfl (fun _ => rMul_ct (hy.up hUc sb) hyn (hy.up hUc sb) hyn) ?_
      rintro v U' Dh8 hU ⟨xh8, rfl, h8, rfl⟩
      refine sl_perm ?_ (perm3 (D := Dh8))
      repeat (first | refine run_S ?_ | refine w_box (fun _ => ?_) | refine w_al (fun _ => ?_))
      rw [← Int.pow_add] at h8
      refine sk_perm (swp3 (A := Dh8) (B := D)) ?_
      exact sk_again (E' := [(5, .pointer (some ⟨b5, 0, none⟩)), (1, .int .i64 ((nc / 2 : Nat) : Int)), (2, .pointer (some ⟨b2, 0, none⟩)), (4, .pointer (some ⟨b4, 0, none⟩))]) (m := nc / 2) ⟨rfl, rfl, rfl, rfl, trivial⟩ (by omega)
        ⟨nc / 2, p', c + c, r, xh8, D, Dh8 ++ X, by rw [← Nat.mul_two, Nat.mul_assoc]; exact hp', by omega, hr, (h8.at sb).rep, h8.le sc2 hK2, rfl, rfl, rfl, sub_r hX, rfl⟩
    · have hn0 : nc / 2 = 0 := by omega
      rw [hn0] at hp' ⊢
      repeat (first | refine run_S ?_ | refine w_box (fun _ => ?_) | refine w_al (fun _ => ?_))
      exact sk_again (E' := [(5, .pointer (some ⟨b5, 0, none⟩)), (1, .int .i64 ((0 : Nat) : Int)), (2, .pointer (some ⟨b2, 0, none⟩)), (4, .pointer (some ⟨b4, 0, none⟩))]) (m := 0) ⟨rfl, rfl, rfl, rfl, trivial⟩ (by omega)
        ⟨0, p', c, r, y, D, X, by omega, hc1, hr, hy, hyn, rfl, rfl, rfl, hX, rfl⟩
  · have hn0 : nc = 0 := by omega
    subst hn0
    rw [Nat.mul_zero, Nat.add_zero] at hp
    subst hp
    repeat (first | refine run_S ?_ | refine w_box (fun _ => ?_) | refine w_al (fun _ => ?_))
    exact sk_ret D sym rfl (.cons (.cell 1 rfl rfl rfl) .nil) hUc (.cons _ (.cons _ (.cons _ (List.Sublist.append (List.Sublist.refl D) hX)))) (.inl rfl) ⟨r, rfl, hr, rfl⟩

end Go.Proofs.Ytlnmhjkagnfnaaa

/- Walks: powers modulo an integer. -/
namespace Go.Proofs.Ytlnmhjkagnfnaaa
open Go.Hp
variable {G : World} {U : UH} {M : MH}

end Go.Proofs.Ytlnmhjkagnfnaaa

/- Walks of the reference of layer 1: powers modulo an integer. -/
namespace Go.Proofs.Ytlnmhjkagnfnaaa
open Go.Hp
variable {G : World} {U : UH} {M : MH}

end Go.Proofs.Ytlnmhjkagnfnaaa
