/- Texts of this seat's own, merged: each begins with its own remark. -/
import Derived.Test.YtlnmhjkagnfnaaaM16
import Derived.Test.YtlnmhjkagnfnaaaM2
import Derived.Test.YtlnmhjkagnfnaaaM15
/- Walks of the statements' helpers: small integers and fractions. -/
namespace Go.Proofs.Ytlnmhjkagnfnaaa
open Go.Hp
variable {G : World} {U : UH} {M : MH}

theorem Own.bd {D : MH} {p : Option Addr} {n c : Nat} {l : List Nat} (h : Own D p n c l) : Bd l := by
  cases h with
  | nil => intro d hd; cases hd
  | arr hn hc hm hb ht => exact hb

theorem bZ_ct {z : Int} (h0 : -9223372036854775808 ≤ z) (h1 : z ≤ 9223372036854775807) :
    Ct Try.prog 19 [.int .i64 z] G U M fun v U' D => ∃ r : IV, v = r.v ∧ r.own D z ∧ ULe U U' := by
  refine ct_of_st Try.func19 rfl rfl rfl rfl ?_
  repeat (first | refine run_O ?_ | refine w_box (fun _ => ?_) | refine w_al (fun _ => ?_))
  refine st_seq ?_
  repeat (first | refine run_O ?_ | refine w_box (fun _ => ?_) | refine w_al (fun _ => ?_))
  rename_i b2
  refine st_seq ?_
  repeat (first | refine run_O ?_ | refine w_box (fun _ => ?_) | refine w_al (fun _ => ?_))
  refine st_seq_cut (fun E U' M' => E = [(0, .int .i64 z), (2, .pointer (some ⟨b2, 0, none⟩)), (3, .int .u64 (z.natAbs : Int))] ∧ U = U' ∧ M' = (b2, .var (.agg #[.bool false, .slice none 0 0]), 24) :: M) ?_ ?_
  · repeat (first | refine run_S ?_ | refine w_box (fun _ => ?_) | refine w_al (fun _ => ?_))
    refine st_dec rfl (fun h2 => ?_) (fun h2 => ?_)
    · repeat (first | refine run_S ?_ | refine w_box (fun _ => ?_) | refine w_al (fun _ => ?_))
      rw [show IntKind.u64.wrap (0 - IntKind.u64.wrap z) = (z.natAbs : Int) by rw [wrap_u64, wrap_u64]; omega]
      exact sk_cut (E' := [(0, .int .i64 z), (2, .pointer (some ⟨b2, 0, none⟩)), (3, .int .u64 (z.natAbs : Int))]) ⟨rfl, rfl, rfl, trivial⟩ ⟨rfl, rfl, rfl⟩
    · rw [show IntKind.u64.wrap z = (z.natAbs : Int) by rw [wrap_u64]; omega]
      repeat (first | refine run_S ?_ | refine w_box (fun _ => ?_) | refine w_al (fun _ => ?_))
      exact sk_cut (E' := [(0, .int .i64 z), (2, .pointer (some ⟨b2, 0, none⟩)), (3, .int .u64 (z.natAbs : Int))]) ⟨rfl, rfl, rfl, trivial⟩ ⟨rfl, rfl, rfl⟩
  · rintro E U' M' ⟨rfl, rfl, rfl⟩
    have hm : z.natAbs < 18446744073709551616 := by omega
    repeat (first | refine run_S ?_ | refine w_box (fun _ => ?_) | refine w_al (fun _ => ?_))
    rename_i b4
    refine st_loop (fun m E U' M' => ∃ (p : Option Addr) (n c : Nat) (l : List Nat) (D : MH), Own D p n c l ∧ n ≤ 10 ∧ z.natAbs = val l + 4294967296 ^ n * m ∧ m * 4294967296 ^ n < 18446744073709551616 ∧ (m = 0 → Cn l) ∧
        E = [(3, .int .u64 (m : Int)), (4, .pointer (some ⟨b4, 0, none⟩)), (2, .pointer (some ⟨b2, 0, none⟩))] ∧ U = U' ∧
        M' = (b4, .var (.agg #[.bool (dec (z < 0)), .slice p n c]), 24) :: (b2, .var (.agg #[.bool false, .slice none 0 0]), 24) :: (D ++ M)) (n0 := z.natAbs)
      (E0 := [(3, .int .u64 (z.natAbs : Int)), (4, .pointer (some ⟨b4, 0, none⟩)), (2, .pointer (some ⟨b2, 0, none⟩))]) ⟨rfl, rfl, rfl, trivial⟩
      ⟨none, 0, 0, [], [], Own.nil, by omega, by simp [val], by omega, fun _ => Cn.nil, rfl, rfl, rfl⟩ ?_
    rintro m E U' M' ⟨p, n, c, l, D, ho, hn, hv, hb, hc, rfl, rfl, rfl⟩
    have hol := ho.len
    try refine run_s ?_
    refine st_dec rfl (fun h5 => ?_) (fun h5 => ?_)
    · have hn2 : n ≤ 1 := by
        rcases Nat.lt_or_ge 1 n with h | h
        · exfalso
          have h6 : (4294967296 : Nat) ^ 2 ≤ 4294967296 ^ n := Nat.pow_le_pow_right (by decide) (by omega)
          have h7 : 1 * 4294967296 ^ n ≤ m * 4294967296 ^ n := Nat.mul_le_mul_right _ (by omega)
          omega
        · exact h
      have hm64 : m < 18446744073709551616 := by
        have : m * 1 ≤ m * 4294967296 ^ n := Nat.mul_le_mul_left _ (Nat.pow_pos (by decide))
        omega
      try refine run_s ?_
      have e1 : ((m : Int) % 4294967296) = ((m % 4294967296 : Nat) : Int) := by omega
      have e2 : ((m : Int) / 2 ^ 32) = ((m / 4294967296 : Nat) : Int) := by rw [show (2 : Int) ^ 32 = 4294967296 by decide]; omega
      rw [e1]
      refine sl_bslice (vs := [m % 4294967296].map dg) sym rfl rfl rfl rfl rfl rfl (dg_size _) rfl rfl rfl rfl rfl rfl (fun bo => ?_)
      refine sl_perm ?_ (perm3 (D := D)).symm
      have hdc : Dig U (D ++ ((bo, .arr ([m % 4294967296].map dg), TU32) :: (b4, .var (.agg #[.bool (dec (z < 0)), .slice p n c]), 24) :: (b2, .var (.agg #[.bool false, .slice none 0 0]), 24) :: M)) (some ⟨bo, 0, none⟩) 1 1 [m % 4294967296] :=
        (dig_row (U := U) (M := (bo, .arr ([m % 4294967296].map dg ++ []), TU32) :: (b4, .var (.agg #[.bool (dec (z < 0)), .slice p n c]), 24) :: (b2, .var (.agg #[.bool false, .slice none 0 0]), 24) :: M) (i := 0) (b := bo) (r := [m % 4294967296]) (t := []) (n := 1) (c := 1) rfl rfl rfl (by omega) (fun d hd => by rw [List.mem_singleton.1 hd]; omega)).up (ULe.refl _) (List.sublist_append_right ..)
      refine sl_appendD (D := D) sym rfl rfl rfl rfl rfl ho rfl hdc (by omega) rfl rfl rfl rfl (fun p' cc D' hD' => ?_)
      refine sl_perm ?_ (perm3 (D := D'))
      try refine run_s ?_
      refine sl_storeF 1 sym rfl rfl rfl rfl rfl rfl rfl rfl rfl rfl rfl ?_
      try refine run_s ?_
      rw [e2]
      refine sk_anti (ULe.refl _) (List.sublist_cons_self ..) ?_
      refine sk_again (E' := [(3, .int .u64 ((m / 4294967296 : Nat) : Int)), (4, .pointer (some ⟨b4, 0, none⟩)), (2, .pointer (some ⟨b2, 0, none⟩))]) (m := m / 4294967296) ⟨rfl, rfl, rfl, trivial⟩ (by omega)
        ⟨p', n + 1, cc, l ++ [m % 4294967296], D', hD', by omega, ?_, ?_, fun h => ?_, rfl, rfl, rfl⟩
      · rw [val_snoc, hol.1, hv, Nat.pow_succ, Nat.add_assoc]
        congr 1
        rw [Nat.mul_assoc, ← Nat.mul_add]
        congr 1
        omega
      · rw [Nat.pow_succ]
        have : m / 4294967296 * 4294967296 ≤ m := Nat.div_mul_le_self _ _
        have h9 := Nat.mul_le_mul_right (4294967296 ^ n) this
        rw [show m / 4294967296 * (4294967296 ^ n * 4294967296) = m / 4294967296 * 4294967296 * 4294967296 ^ n by rw [Nat.mul_assoc, Nat.mul_comm 4294967296]]
        omega
      · exact ⟨hD'.bd, tl_snoc l (by omega)⟩
    · have hm0 : m = 0 := by omega
      subst hm0
      rw [Nat.mul_zero, Nat.add_zero] at hv
      repeat (first | refine run_S ?_ | refine w_box (fun _ => ?_) | refine w_al (fun _ => ?_))
      have hs : dec (z < 0) = decide (z < 0) := dec_eq _
      exact sk_ret D sym rfl (.cons (.cell 1 rfl rfl rfl) .nil) uc sb (.inl rfl) ⟨⟨dec (z < 0), p, n, c⟩, rfl, ⟨l, ho, hc rfl, hv.symm, hs⟩, uc⟩

theorem bFrac_ct {n d : Nat} (hn : n ≤ 1000000) (hd : d ≤ 1000000) (hd0 : 0 < d) :
    Ct Try.prog 22 [.int .i64 (n : Int), .int .i64 (d : Int)] G U M fun v U' D => ∃ r : QV, v = r.v ∧ r.nrm U' [] (Rat.divInt n d) ∧ D = [] := by
  obtain ⟨q1, q2⟩ := over_pos (n := (n : Int)) (d := (d : Int)) (by omega)
  refine ct_of_st Try.func22 rfl rfl rfl rfl ?_
  repeat (first | refine run_S ?_ | refine w_box (fun _ => ?_) | refine w_al (fun _ => ?_))
  rename_i b4
  refine st_dec rfl (fun h => absurd h (by omega)) (fun _ => ?_)
  repeat (first | refine run_S ?_ | refine w_box (fun _ => ?_) | refine w_al (fun _ => ?_))
  rw [show (if IntKind.i64.wrap (0 - (n : Int)) > (n : Int) then IntKind.i64.wrap (0 - (n : Int)) else (n : Int)) = (n : Int) by rw [IntWalk.i64_in _ (by omega)]; split <;> omega]
  refine st_loop (fun m E U' M' => ∃ a b : Nat, Nat.gcd a b = Nat.gcd n d ∧ a ≤ 1000000 ∧ b ≤ 1000000 ∧ E = [(5, .int .i64 (a : Int)), (6, .int .i64 (b : Int)), (0, .int .i64 (n : Int)), (1, .int .i64 (d : Int)), (4, .pointer (some ⟨b4, 0, none⟩))] ∧ U = U' ∧
      M' = (b4, .var zeroQV.v, 26) :: M ∧ b = m) (n0 := d)
    (E0 := [(5, .int .i64 (n : Int)), (6, .int .i64 (d : Int)), (0, .int .i64 (n : Int)), (1, .int .i64 (d : Int)), (4, .pointer (some ⟨b4, 0, none⟩))]) ⟨rfl, rfl, rfl, rfl, rfl, trivial⟩ ⟨n, d, rfl, hn, hd, rfl, rfl, rfl, rfl⟩ ?_
  rintro m E U' M' ⟨a, b, hg, ha, hb, rfl, rfl, rfl, hm⟩
  subst hm
  try refine run_s ?_
  refine st_dec rfl (fun h5 => ?_) (fun h5 => ?_)
  · have hlt : a % b < b := Nat.mod_lt _ (by omega)
    try refine run_s ?_
    refine st_draw [0, 1, 2, 3, 4, 5] sym (by kernel_rfl) ?_
    try refine run_s ?_
    refine sl_y (yl_remN (m := a) (n := b) rfl rfl rfl rfl rfl (by simp only [kmax]; omega) (by omega) rfl) rfl rfl rfl rfl ?_
    try refine run_s ?_
    exact sk_again (E' := [(5, .int .i64 (b : Int)), (6, .int .i64 ((a % b : Nat) : Int)), (0, .int .i64 (n : Int)), (1, .int .i64 (d : Int)), (4, .pointer (some ⟨b4, 0, none⟩))]) (m := a % b) ⟨rfl, rfl, rfl, rfl, rfl, trivial⟩ hlt
      ⟨b, a % b, by rw [← hg, Nat.gcd_comm b (a % b), ← Nat.gcd_rec b a, Nat.gcd_comm], by omega, by omega, rfl, rfl, rfl, rfl⟩
  · have hb0 : b = 0 := by omega
    subst hb0
    rw [Nat.gcd_zero_right] at hg
    have ha0 : 0 < a := by
      rw [hg]; exact Nat.gcd_pos_of_pos_right _ hd0
    have g1 : (Int.gcd (n : Int) (d : Int) : Int) = (a : Int) := by rw [hg]; rfl
    rw [g1] at q1 q2
    try refine run_s ?_
    refine st_draw [0, 1, 2, 4, 5, 6, 3, 7, 8, 9] sym (by kernel_rfl) ?_
    try refine run_s ?_
    refine sl_y (yl_quoN (m := n) (n := a) rfl rfl rfl rfl rfl (by simp only [kmax]; omega) ha0 rfl) rfl rfl rfl rfl ?_
    try refine run_s ?_
    refine sl_y (yl_quoN (m := d) (n := a) rfl rfl rfl rfl rfl (by simp only [kmax]; omega) ha0 rfl) rfl rfl rfl rfl ?_
    repeat (first | refine run_S ?_ | refine w_box (fun _ => ?_) | refine w_al (fun _ => ?_))
    have l1 := Nat.div_le_self n a
    have l2 := Nat.div_le_self d a
    have w1 : -9223372036854775808 ≤ ((n / a : Nat) : Int) := Int.le_trans (by decide) (Int.natCast_nonneg _)
    have w2 : -9223372036854775808 ≤ ((d / a : Nat) : Int) := Int.le_trans (by decide) (Int.natCast_nonneg _)
    have w3 : ((n / a : Nat) : Int) ≤ 9223372036854775807 := Int.le_trans (Int.ofNat_le.2 l1) (by omega)
    have w4 : ((d / a : Nat) : Int) ≤ 9223372036854775807 := Int.le_trans (Int.ofNat_le.2 l2) (by omega)
    refine sl_call rfl rfl rfl rfl rfl rfl (fun _ => (bZ_ct w1 w3).settle) ?_
    rintro v Uh6 D hU ⟨rfl, _, _, ⟨xh6, rfl, h6, -⟩, -, -, hs⟩
    replace h6 := h6.sett hs
    clear hs
    repeat (first | refine run_S ?_ | refine w_box (fun _ => ?_) | refine w_al (fun _ => ?_))
    refine sl_call rfl rfl rfl rfl rfl rfl (fun _ => (bZ_ct w2 w4).settle) ?_
    rintro v Uh7 D hU ⟨rfl, _, _, ⟨xh7, rfl, h7, -⟩, -, -, hs⟩
    replace h7 := h7.sett hs
    clear hs
    repeat (first | refine run_S ?_ | refine w_box (fun _ => ?_) | refine w_al (fun _ => ?_))
    exact sk_ret [] sym rfl (.cons (.cell 0 rfl rfl rfl) .nil) uc sb (.inl rfl) ⟨⟨xh6, xh7⟩, rfl, ⟨by rw [q1, ← Int.natCast_ediv]; exact h6.up uc sb, by rw [q2, ← Int.natCast_ediv]; exact h7⟩, rfl⟩

end Go.Proofs.Ytlnmhjkagnfnaaa

/- Walks of the helpers of layer 2's statements: awake, long, none. -/
namespace Go.Proofs.Ytlnmhjkagnfnaaa
open Go.Hp
variable {G : World} {U : UH} {M : MH}

/-- The fractions of a list that the caller has made. -/
structure Qvs (U : UH) (M : MH) (b : Nat) (xs : List QV) : Prop where
  num : ∀ (k : Nat) (x : QV), xs[k]? = some x → ∀ (G : World) (w : World), Mem G U M w → w.cell? ⟨b, k * 4 + 1, none⟩ = some (.slice x.num.p x.num.n x.num.c)
  den : ∀ (k : Nat) (x : QV), xs[k]? = some x → ∀ (G : World) (w : World), Mem G U M w → w.cell? ⟨b, k * 4 + 3, none⟩ = some (.slice x.den.p x.den.n x.den.c)
theorem Qvs.app {b : Nat} {xs : List QV} (h : Qvs U M b xs) (M2 : MH) : Qvs U (M2 ++ M) b xs :=
  ⟨fun k x hk G w hw => h.num k x hk G w (hw.anti (ULe.refl U) (List.sublist_append_right ..)), fun k x hk G w hw => h.den k x hk G w (hw.anti (ULe.refl U) (List.sublist_append_right ..))⟩
end Go.Proofs.Ytlnmhjkagnfnaaa
