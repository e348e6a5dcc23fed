/- Texts of this seat's own, merged: each begins with its own remark. -/
import Derived.Test.YtlnmhjkagnfnaaaM43
import Derived.Test.YtlnmhjkagnfnaaaM10
import Derived.Test.YtlnmhjkagnfnaaaB38
import Derived.Test.YtlnmhjkagnfnaaaM40
import Derived.Test.YtlnmhjkagnfnaaaM2
import Derived.Test.YtlnmhjkagnfnaaaM4
import Derived.Test.YtlnmhjkagnfnaaaM19
import Derived.Test.YtlnmhjkagnfnaaaM15
import Derived.Test.YtlnmhjkagnfnaaaM5
/- Walks of modmatrix: remainders put together. -/
namespace Go.Proofs.Ytlnmhjkagnfnaaa
open Go.Hp
variable {G : World} {U U' : UH} {M : MH}

theorem Xgcd_st {x y : IV} {z w : Int} (hx : x.rep U M z) (hn : x.n ≤ 274877906944) (hy : y.rep U M w) (hn' : y.n ≤ 274877906944) (hw : 1 ≤ w) (hg : Int.gcd z w = 1) :
    Ct Try.prog 64 [x.v, y.v] G U M fun v U' D => ∃ (g u t : IV) (zu : Int), v = .tuple #[g.v, u.v, t.v] ∧ D = [] ∧ u.nrm U' [] zu ∧ w ∣ zu * z - 1 ∧ 0 ≤ zu ∧ zu < w :=
  (Xgcd_ct hx hn hy hn').settle.mono fun _ _ _ _ ⟨h1, _, _, ⟨g, u, t, zu, zt, Dg, Du, Dt, h2, h3, _, h4, _, _, h5, _⟩, _, _, hs⟩ => by
    subst h3
    obtain ⟨h6, k, h7⟩ := h5 (by omega)
    rw [hg] at h6 h7
    rw [show w / ((1 : Nat) : Int) = w from Int.ediv_one w] at h7
    refine ⟨g, u, t, zu, h2, h1, h4.sett hs.right.left, ⟨-zt, ?_⟩, ?_, ?_⟩
    · rw [Int.mul_neg, Int.mul_comm w zt]
      omega
    · rw [h7]; exact Int.emod_nonneg _ (by omega)
    · rw [h7]; exact Int.emod_lt_of_pos _ (by omega)

theorem combined_ct {x a r b : IV} {X A R B : Int} {k : Nat} (hk : k ≤ 900) (hx : x.rep U [] X) (sx : Sz X k) (hxn : x.n ≤ k) (ha : a.rep U [] A) (sa : Sz A k) (han : a.n ≤ k) (hr : r.rep U [] R) (sr : Sz R k) (hrn : r.n ≤ k) (hb : b.rep U [] B) (sB : Sz B k) (hbn : b.n ≤ k) (hB : 1 ≤ B) (hg : Int.gcd A B = 1) :
    Ct Try.prog 35 [x.v, a.v, r.v, b.v] G U M fun v U' D => ∃ (o : IV) (u : Int), v = o.v ∧ D = [] ∧ B ∣ u * A - 1 ∧ o.nrm U' [] (X + A * (((R - X) * u) % B)) := by
  refine ct_of_st Try.func35 rfl rfl rfl rfl ?_
  repeat (first | refine run_S ?_ | refine w_box (fun _ => ?_) | refine w_al (fun _ => ?_))
  refine sl_call rfl rfl rfl rfl rfl rfl (fun _ => Xgcd_st (ha.up uc sb) (by omega) (hb.up uc sb) (by omega) hB hg) ?_
  rintro v1 U1 D1 hU1 ⟨g1, xu, t1, u, rfl, rfl, hu, h1, h2, h3⟩
  try rw [List.nil_append]
  repeat (first | refine run_S ?_ | refine w_box (fun _ => ?_) | refine w_al (fun _ => ?_))
  have su : Sz u k := sz_le sB (by omega)
  refine st_drawM [13, 14, 15] [0, 1, 3, 5, 2, 4, 6, 7, 8, 9, 10, 11, 12, 13, 14, 15] sym (by kernel_rfl) ?_
  repeat (first | refine run_S ?_ | refine w_box (fun _ => ?_) | refine w_al (fun _ => ?_))
  refine sl_call rfl rfl rfl rfl rfl rfl (fun _ => (Sub_ct (hr.up uc sb) (by omega) (hx.up uc sb) (by omega)).settle) ?_
  rintro v Uh4 D hU ⟨rfl, _, _, ⟨xh4, rfl, h4, -⟩, -, -, hs⟩
  replace h4 := h4.sett hs
  clear hs
  repeat (first | refine run_S ?_ | refine w_box (fun _ => ?_) | refine w_al (fun _ => ?_))
  have s4 := sr.sub sx
  refine sl_call rfl rfl rfl rfl rfl rfl (fun _ => (Mul_ct (h4.rep.up uc sb) (h4.le (s4) (by omega)) (hu.rep.up uc sb) (hu.le (su) (by omega))).settle) ?_
  rintro v Uh5 D hU ⟨rfl, _, _, ⟨xh5, rfl, h5, -⟩, -, -, hs⟩
  replace h5 := h5.sett hs
  clear hs
  repeat (first | refine run_S ?_ | refine w_box (fun _ => ?_) | refine w_al (fun _ => ?_))
  have s5 := s4.mul su
  refine sl_call rfl rfl rfl rfl rfl rfl (fun _ => DivMod_st (h5.rep.up uc sb) (h5.le s5 (by omega)) (hb.up uc sb) (by omega) (by omega)) ?_
  rintro v6 U6 D6 hU6 ⟨xq6, xr6, rfl, -, h6, rfl⟩
  try rw [List.nil_append]
  repeat (first | refine run_S ?_ | refine w_box (fun _ => ?_) | refine w_al (fun _ => ?_))
  refine st_drawM [4, 5] [0, 1, 2, 3, 4, 5] sym (by kernel_rfl) ?_
  repeat (first | refine run_S ?_ | refine w_box (fun _ => ?_) | refine w_al (fun _ => ?_))
  have s6 : Sz ((R - X) * u % B) k := sB.mod (by omega) _
  refine sl_call rfl rfl rfl rfl rfl rfl (fun _ => (Mul_ct (ha.up uc sb) (by omega) (h6.rep.up uc sb) (h6.le (s6) (by omega))).settle) ?_
  rintro v Uh7 D hU ⟨rfl, _, _, ⟨xh7, rfl, h7, -⟩, -, -, hs⟩
  replace h7 := h7.sett hs
  clear hs
  repeat (first | refine run_S ?_ | refine w_box (fun _ => ?_) | refine w_al (fun _ => ?_))
  have s7 := sa.mul s6
  refine sl_call rfl rfl rfl rfl rfl rfl (fun _ => (Add_ct (hx.up uc sb) (by omega) (h7.rep.up uc sb) (h7.le (s7) (by omega))).settle) ?_
  rintro v Uh8 D hU ⟨rfl, _, _, ⟨xh8, rfl, h8, -⟩, -, -, hs⟩
  replace h8 := h8.sett hs
  clear hs
  repeat (first | refine run_S ?_ | refine w_box (fun _ => ?_) | refine w_al (fun _ => ?_))
  exact sk_ret [] sym rfl (.cons (.cell 5 rfl rfl rfl) .nil) uc sb (.inl rfl) ⟨xh8, u, rfl, rfl, h1, h8⟩
end Go.Proofs.Ytlnmhjkagnfnaaa

/- Remainders put together one after another: what both ways of doing so agree on. No condition. -/
namespace Go.Fq

/-- After i remainders. -/
inductive Ch (r m : Nat → Int) : Nat → Int → Int → Prop where
  | zero : Ch r m 0 0 1
  | succ {i : Nat} {x M u : Int} : Ch r m i x M → 1 ≤ m i → Int.gcd M (m i) = 1 → m i ∣ u * M - 1 → Ch r m (i + 1) (x + M * (((r i - x) * u) % m i)) (M * m i)
variable {r m : Nat → Int} {i j : Nat} {x M : Int}
theorem Ch.fact (h : Ch r m i x M) : 1 ≤ M ∧ 0 ≤ x ∧ x < M ∧ (∀ j, j < i → m j ∣ M) ∧ ∀ j, j < i → 1 ≤ m j ∧ m j ∣ x - r j := by
  induction h with
  | zero => exact ⟨by decide, by decide, by decide, fun j hj => absurd hj (Nat.not_lt_zero j), fun j hj => absurd hj (Nat.not_lt_zero j)⟩
  | @succ i x M u _ h1 h2 h3 ih =>
    obtain ⟨a1, a2, a3, a4, a5⟩ := ih
    obtain ⟨b1, b2, b3, b4⟩ := crt_step (r := r i) h1 a1 a2 a3 h3
    have hM := Int.mul_le_mul a1 h1 (by decide) (by omega)
    refine ⟨by omega, b1, b2, fun j hj => ?_, fun j hj => ?_⟩
    · rcases Nat.lt_or_eq_of_le (Nat.le_of_lt_succ hj) with h | rfl
      · exact Int.dvd_mul_of_dvd_left (a4 j h)
      · exact Int.dvd_mul_left ..
    · rcases Nat.lt_or_eq_of_le (Nat.le_of_lt_succ hj) with h | rfl
      · refine ⟨(a5 j h).1, ?_⟩
        have := Int.dvd_add (Int.dvd_trans (a4 j h) b4) (a5 j h).2
        rwa [show (x + M * (((r i - x) * u) % m i) - x) + (x - r j) = x + M * (((r i - x) * u) % m i) - r j by omega] at this
      · exact ⟨h1, b3⟩
/-- The outcome: OK, a modulus out of range, a modulus not coprime to those before it. -/
inductive Out (r m : Nat → Int) (n : Nat) : Int → Int → Int → Prop where
  | ok {x M : Int} : Ch r m n x M → Out r m n x M 0
  | range {i : Nat} {x M : Int} : i < n → Ch r m i x M → m i < 1 → Out r m n 0 0 2
  | coprime {i : Nat} {x M : Int} : i < n → Ch r m i x M → 1 ≤ m i → Int.gcd M (m i) ≠ 1 → Out r m n 0 0 9
/-- What Euclid's algorithm ends with. -/
theorem Eu.fin {a m g u w e : Int} (h : Eu (a % m) m g 0 u w e) : (g = 1 → Int.gcd a m = 1 ∧ m ∣ (u % m) * a - 1) ∧ (g ≠ 1 → Int.gcd a m ≠ 1) := by
  have ha : m ∣ a - a % m := Int.dvd_self_sub_emod
  constructor
  · rintro rfl
    have hd : ((Int.gcd a m : Nat) : Int) ∣ 1 := by
      have h1 := Int.gcd_dvd_left a m
      have h2 := Int.gcd_dvd_right a m
      have h3 : ((Int.gcd a m : Nat) : Int) ∣ a % m := by
        have := Int.dvd_sub h1 (Int.dvd_trans h2 ha)
        rwa [show a - (a - a % m) = a % m by omega] at this
      have := Int.dvd_add (Int.dvd_trans h2 h.cg) (show _ ∣ u * (a % m) from Int.dvd_mul_of_dvd_right h3)
      rwa [Int.sub_add_cancel] at this
    refine ⟨by have := Int.le_of_dvd (by decide) hd; have h0 : Int.gcd a m ≠ 0 := fun e => by rw [e] at hd; exact absurd (Int.zero_dvd.1 hd) (by decide)
               omega, ?_⟩
    have hu : m ∣ u - u % m := Int.dvd_self_sub_emod
    have e1 : (u % m) * a - 1 = u * (a - a % m) - (1 - u * (a % m)) - (u - u % m) * a := by
      rw [Int.mul_sub, Int.sub_mul]
      omega
    rw [e1]
    exact Int.dvd_sub (Int.dvd_sub (Int.dvd_mul_of_dvd_right ha) h.cg) (Int.dvd_mul_of_dvd_left hu)
  · intro h1 h2
    obtain ⟨k1, k2⟩ := h.dv g (Int.dvd_refl g) (Int.dvd_zero g)
    have k3 : g ∣ a := by
      have := Int.dvd_add (Int.dvd_trans k2 ha) k1
      rwa [Int.sub_add_cancel] at this
    have k4 : g ∣ ((Int.gcd a m : Nat) : Int) := Int.dvd_coe_gcd k3 k2
    rw [h2] at k4
    have := Int.le_of_dvd (by decide) k4
    have h0 := h.g1
    have : g ≠ 0 := fun e => by subst e; exact absurd (Int.zero_dvd.1 k4) (by decide)
    omega
end Go.Fq
namespace Go.Proofs.Ytlnmhjkagnfnaaa
open Go.Hp Go.Fq
variable {r m : Nat → Int} {i : Nat} {x M : Int}
/-- Sizes. -/
theorem ch_sz {k : Nat} (h : Ch r m i x M) (hm : ∀ j, j < i → Sz (m j) k) : Sz M (k * i + 1) ∧ Sz x (k * i + 1) := by
  have : Sz M (k * i + 1) := by
    induction h with
    | zero => unfold Sz; rw [Nat.mul_zero]; decide
    | @succ i x M u h h1 h2 h3 ih =>
      have a := ih fun j hj => hm j (by omega)
      exact (a.mul (hm i (by omega))).mono (by rw [Nat.mul_add]; omega)
  refine ⟨this, ?_⟩
  obtain ⟨a, b, c, _⟩ := h.fact
  exact Nat.lt_of_le_of_lt (show x.natAbs ≤ M.natAbs by omega) this
end Go.Proofs.Ytlnmhjkagnfnaaa

/- Walks of modmatrix: the Chinese remainders. -/
namespace Go.Proofs.Ytlnmhjkagnfnaaa
open Go.Hp Go.Fq
variable {G : World} {U U' : UH} {M : MH}

/-- An integer of any form, of at most s digits. -/
def Xw (s : Nat) (U : UH) (v : Value) (z : Int) : Prop := ∃ x : IV, v = x.v ∧ x.rep U [] z ∧ x.n ≤ s
theorem zeroIV_nrm : zeroIV.nrm U [] 0 := zeroIV0_own.at (List.nil_sublist _)

theorem fChinese_ct {vr vm : Value} {nr nm s t : Nat} {r m : Nat → Int} (hr : Ls (Xw s) 2 nr U M vr r) (hm : Ls (Xw t) 2 nm U M vm m) (h1 : nr ≤ 10) (h2 : nm ≤ 10) (hs : s ≤ 61) (ht : t ≤ 6) :
    Ct Try.prog 12 [vr, vm] G U M fun v U' D => ∃ (x y : IV) (X K e : Int), v = .tuple #[x.v, y.v, .int .i64 e] ∧ D = [] ∧ x.nrm U' [] X ∧ y.nrm U' [] K ∧ (nr ≠ nm → e = 4 ∧ X = 0 ∧ K = 0) ∧ (nr = nm → Out r m nr X K e) := by
  obtain ⟨qr, cr, vsr, rfl, hcr, rr, er⟩ := hr
  obtain ⟨qm, cm, vsm, rfl, hcm, rm, em⟩ := hm
  refine ct_of_st Try.func12 rfl rfl rfl rfl ?_
  repeat (first | refine run_S ?_ | refine w_box (fun _ => ?_) | refine w_al (fun _ => ?_))
  rename_i b4 b5
  refine st_ne rfl (fun h => ?_) (fun h => ?_)
  · repeat (first | refine run_S ?_ | refine w_box (fun _ => ?_) | refine w_al (fun _ => ?_))
    exact sk_ret [] sym rfl (.cons (.cell 1 rfl rfl rfl) (.cons (.cell 0 rfl rfl rfl) (.cons (.tmp rfl) .nil))) uc sb (.inl rfl) ⟨zeroIV, zeroIV, 0, 0, 4, rfl, rfl, zeroIV_nrm, zeroIV_nrm, fun _ => ⟨rfl, rfl, rfl⟩, fun h => absurd h (by omega)⟩
  obtain rfl : nr = nm := by omega
  repeat (first | refine run_S ?_ | refine w_box (fun _ => ?_) | refine w_al (fun _ => ?_))
  refine sl_call rfl rfl rfl rfl rfl rfl (fun _ => (Of_ct (z := 1) (by decide) (by decide)).settle) ?_
  rintro v Uh3 D hU ⟨rfl, _, _, ⟨xh3, rfl, h3, -⟩, -, -, hs⟩
  replace h3 := h3.sett hs
  clear hs
  repeat (first | refine run_S ?_ | refine w_box (fun _ => ?_) | refine w_al (fun _ => ?_))
  rename_i b7
  repeat (first | refine run_S ?_ | refine w_box (fun _ => ?_) | refine w_al (fun _ => ?_))
  refine sl_call rfl rfl rfl rfl rfl rfl (fun _ => (Of_ct (z := 1) (by decide) (by decide)).settle) ?_
  rintro v Uh4 D hU ⟨rfl, _, _, ⟨xh4, rfl, h4, -⟩, -, -, hs⟩
  replace h4 := h4.sett hs
  clear hs
  repeat (first | refine run_S ?_ | refine w_box (fun _ => ?_) | refine w_al (fun _ => ?_))
  have s1 : Sz (1 : Int) 1 := by unfold Sz; decide
  try refine st_anti (M' := (b7, .var xh3.v, 24) :: (b5, .var xh4.v, 24) :: (b4, .var zeroIV.v, 24) :: M) (ULe.refl _) sbk ?_
  refine st_loop (fun z E U' M' => ∃ (i : Nat) (xx xk : IV) (X K : Int), i ≤ nr ∧ xx.nrm U' [] X ∧ xk.nrm U' [] K ∧ Ch r m i X K ∧ E = [(19, .int .i64 (nr : Int)), (20, .int .i64 (i : Int)), (7, .pointer (some ⟨b7, 0, none⟩)), (5, .pointer (some ⟨b5, 0, none⟩)), (4, .pointer (some ⟨b4, 0, none⟩)), (0, .slice qr nr cr), (1, .slice qm nr cm), (6, .int .i64 0)] ∧ ULe Uh3 U' ∧ M' = (b7, .var xh3.v, 24) :: (b5, .var xk.v, 24) :: (b4, .var xx.v, 24) :: M ∧ z = nr - i) (n0 := nr - 0) (E0 := [(19, .int .i64 (nr : Int)), (20, .int .i64 ((0 : Nat) : Int)), (7, .pointer (some ⟨b7, 0, none⟩)), (5, .pointer (some ⟨b5, 0, none⟩)), (4, .pointer (some ⟨b4, 0, none⟩)), (0, .slice qr nr cr), (1, .slice qm nr cm), (6, .int .i64 0)]) ⟨rfl, rfl, rfl, rfl, rfl, rfl, rfl, rfl, trivial⟩ ⟨0, zeroIV, xh4, 0, 1, by omega, zeroIV_nrm, h4.up uc (List.Sublist.refl _), Ch.zero, rfl, uc, rfl, rfl⟩ ?_
  clear h4
  rintro z E U1 M' ⟨i, xx, xk, X, K, hi, hX, hK, hC, rfl, hU1, rfl, rfl⟩
  try refine run_s ?_
  refine st_dec rfl (fun h => ?_) (fun h => ?_)
  · have hin : i < nr := by omega
    obtain ⟨v1, hv1⟩ := rr.at hin
    obtain ⟨v2, hv2⟩ := rm.at hin
    obtain ⟨y1, rfl, hy1, hn1⟩ := er _ _ hv1
    obtain ⟨y2, rfl, hy2, hn2⟩ := em _ _ hv2
    have hp1 := (rr.get _ _ hv1).1
    have hp2 := (rm.get _ _ hv2).1
    repeat (first | refine run_S ?_ | refine w_box (fun _ => ?_) | refine w_al (fun _ => ?_))
    refine w_addr (j := i) hin hp2 ?_
    refine sl_y (yl_loadRs sym rfl rfl rfl rfl rfl (rm.up uc sb) hv2) rfl rfl rfl rfl ?_
    repeat (first | refine run_S ?_ | refine w_box (fun _ => ?_) | refine w_al (fun _ => ?_))
    refine sl_call rfl rfl rfl rfl rfl rfl (fun _ => Sign_ct (hy2.up uc sb) (by omega)) ?_
    rintro v U' D hU ⟨rfl, rfl, rfl⟩
    repeat (first | refine run_S ?_ | refine w_box (fun _ => ?_) | refine w_al (fun _ => ?_))
    refine st_dec rfl (fun h5 => ?_) (fun h5 => ?_)
    · have hm0 : m i < 1 := by
        rcases Int.lt_or_le (m i) 1 with h6 | h6
        · exact h6
        · have := Int.sign_eq_one_of_pos (show 0 < m i by omega); omega
      repeat (first | refine run_S ?_ | refine w_box (fun _ => ?_) | refine w_al (fun _ => ?_))
      exact sk_ret [] sym rfl (.cons (.cell 2 rfl rfl rfl) (.cons (.cell 1 rfl rfl rfl) (.cons (.tmp rfl) .nil))) uc sb (.inl rfl) ⟨zeroIV, zeroIV, 0, 0, 2, rfl, rfl, zeroIV_nrm, zeroIV_nrm, fun h => absurd rfl h, fun _ => .range hin hC hm0⟩
    have hm1 : 1 ≤ m i := by
      rcases Int.lt_or_le (m i) 1 with h6 | h6
      · exact absurd (by rcases Int.lt_or_le (m i) 0 with h7 | h7
                         · rw [Int.sign_eq_neg_one_of_neg h7]; decide
                         · rw [show m i = 0 by omega]; decide) h5
      · exact h6
    have hmz : ∀ j, j < i → Sz (m j) 6 := fun j hj => by
      obtain ⟨w, hw⟩ := rm.at (show j < nr by omega)
      obtain ⟨y, -, hy, hn⟩ := em _ _ hw
      exact hy.sz (by omega)
    obtain ⟨sK, sX⟩ := ch_sz hC hmz
    replace sK : Sz K 61 := sK.mono (by omega)
    replace sX : Sz X 61 := sX.mono (by omega)
    repeat (first | refine run_S ?_ | refine w_box (fun _ => ?_) | refine w_al (fun _ => ?_))
    refine st_draw [0, 1, 2, 3, 4, 6, 5, 7, 8] sym (by kernel_rfl) ?_
    repeat (first | refine run_S ?_ | refine w_box (fun _ => ?_) | refine w_al (fun _ => ?_))
    refine w_addr (j := i) hin hp2 ?_
    refine sl_y (yl_loadRs sym rfl rfl rfl rfl rfl (rm.up uc sb) hv2) rfl rfl rfl rfl ?_
    repeat (first | refine run_S ?_ | refine w_box (fun _ => ?_) | refine w_al (fun _ => ?_))
    refine sl_call rfl rfl rfl rfl rfl rfl (fun _ => (Gcd_ct (hK.rep.up uc sb) (hK.le (sK) (by omega)) (hy2.up uc sb) (by omega)).settle) ?_
    rintro v Uh6 D hU ⟨rfl, _, _, ⟨xh6, rfl, h6, -⟩, -, -, hs⟩
    replace h6 := h6.sett hs
    clear hs
    repeat (first | refine run_S ?_ | refine w_box (fun _ => ?_) | refine w_al (fun _ => ?_))
    have s6 := sK.gcd ((hy2.sz hn2).mono (show t ≤ 61 by omega))
    refine sl_call rfl rfl rfl rfl rfl rfl (fun _ => Cmp_ct (h6.rep.up uc sb) (h6.le (s6) (by omega)) (h3.rep.up uc sb) (h3.le (s1) (by omega))) ?_
    rintro v U' D hU ⟨rfl, rfl, rfl⟩
    repeat (first | refine run_S ?_ | refine w_box (fun _ => ?_) | refine w_al (fun _ => ?_))
    refine st_ne rfl (fun h7 => ?_) (fun h7 => ?_)
    · have hg : Int.gcd K (m i) ≠ 1 := fun e => h7 (by rw [e]; rfl)
      repeat (first | refine run_S ?_ | refine w_box (fun _ => ?_) | refine w_al (fun _ => ?_))
      exact sk_ret [] sym rfl (.cons (.cell 2 rfl rfl rfl) (.cons (.cell 1 rfl rfl rfl) (.cons (.tmp rfl) .nil))) uc sb (.inl rfl) ⟨zeroIV, zeroIV, 0, 0, 9, rfl, rfl, zeroIV_nrm, zeroIV_nrm, fun h => absurd rfl h, fun _ => .coprime hin hC hm1 hg⟩
    have hg : Int.gcd K (m i) = 1 := by
      have := Int.sign_eq_zero_iff_zero.1 h7
      omega
    repeat (first | refine run_S ?_ | refine w_box (fun _ => ?_) | refine w_al (fun _ => ?_))
    refine st_draw [0, 1, 2, 3, 4, 5, 6, 7, 8, 9, 10, 11] sym (by kernel_rfl) ?_
    repeat (first | refine run_S ?_ | refine w_box (fun _ => ?_) | refine w_al (fun _ => ?_))
    refine w_addr (j := i) hin hp1 ?_
    refine sl_y (yl_loadRs sym rfl rfl rfl rfl rfl (rr.up uc sb) hv1) rfl rfl rfl rfl ?_
    repeat (first | refine run_S ?_ | refine w_box (fun _ => ?_) | refine w_al (fun _ => ?_))
    refine w_addr (j := i) hin hp2 ?_
    refine sl_y (yl_loadRs sym rfl rfl rfl rfl rfl (rm.up uc sb) hv2) rfl rfl rfl rfl ?_
    refine sl_call rfl rfl rfl rfl rfl rfl (fun _ => combined_ct (k := 61) (by decide) (hX.rep.up uc (List.Sublist.refl _)) sX (hX.le sX (by omega)) (hK.rep.up uc (List.Sublist.refl _)) sK (hK.le sK (by omega)) (hy1.up uc (List.Sublist.refl _)) ((hy1.sz hn1).mono (by omega)) (by omega) (hy2.up uc (List.Sublist.refl _)) ((hy2.sz hn2).mono (by omega)) (by omega) hm1 hg) ?_
    rintro v8 U8 D8 hU8 ⟨xo, u, rfl, rfl, hu, h8⟩
    try rw [List.nil_append]
    repeat (first | refine run_S ?_ | refine w_box (fun _ => ?_) | refine w_al (fun _ => ?_))
    refine st_draw [0, 1, 2, 3, 4, 5, 6] sym (by kernel_rfl) ?_
    repeat (first | refine run_S ?_ | refine w_box (fun _ => ?_) | refine w_al (fun _ => ?_))
    refine w_addr (j := i) hin hp2 ?_
    refine sl_y (yl_loadRs sym rfl rfl rfl rfl rfl (rm.up uc sb) hv2) rfl rfl rfl rfl ?_
    repeat (first | refine run_S ?_ | refine w_box (fun _ => ?_) | refine w_al (fun _ => ?_))
    refine sl_call rfl rfl rfl rfl rfl rfl (fun _ => (Mul_ct (hK.rep.up uc sb) (hK.le (sK) (by omega)) (hy2.up uc sb) (by omega)).settle) ?_
    rintro v Uh9 D hU ⟨rfl, _, _, ⟨xh9, rfl, h9, -⟩, -, -, hs⟩
    replace h9 := h9.sett hs
    clear hs
    repeat (first | refine run_S ?_ | refine w_box (fun _ => ?_) | refine w_al (fun _ => ?_))
    exact sk_again (E' := [(19, .int .i64 (nr : Int)), (20, .int .i64 ((i : Int) + 1)), (7, .pointer (some ⟨b7, 0, none⟩)), (5, .pointer (some ⟨b5, 0, none⟩)), (4, .pointer (some ⟨b4, 0, none⟩)), (0, .slice qr nr cr), (1, .slice qm nr cm), (6, .int .i64 0)]) (m := nr - (i + 1)) ⟨rfl, rfl, rfl, rfl, rfl, rfl, rfl, rfl, trivial⟩ (by omega) ⟨i + 1, xo, xh9, X + K * (((r i - X) * u) % m i), K * m i, by omega, h8.up uc (List.Sublist.refl _), h9.up uc (List.Sublist.refl _), Ch.succ hC hm1 hg hu, rfl, uc, rfl, rfl⟩
  · obtain rfl : i = nr := by omega
    repeat (first | refine run_S ?_ | refine w_box (fun _ => ?_) | refine w_al (fun _ => ?_))
    refine st_draw2 1 2 [0, 1, 2, 3, 4] [0, 2, 1, 3, 4] sym (by kernel_rfl) (by kernel_rfl) (by kernel_rfl) ?_ ?_
    all_goals
      repeat (first | refine run_S ?_ | refine w_box (fun _ => ?_) | refine w_al (fun _ => ?_))
      exact sk_ret [] sym rfl (.cons (.cell 2 rfl rfl rfl) (.cons (.cell 1 rfl rfl rfl) (.cons (.tmp rfl) .nil))) uc sb (.inl rfl) ⟨xx, xk, X, K, 0, rfl, rfl, hX.up uc (List.Sublist.refl _), hK.up uc (List.Sublist.refl _), fun h => absurd rfl h, fun _ => .ok hC⟩
end Go.Proofs.Ytlnmhjkagnfnaaa

/- Walks of the reference of layer 13: inverses modulo an integer. -/
namespace Go.Proofs.Ytlnmhjkagnfnaaa
open Go.Hp Go.Fq
variable {G : World} {U U' : UH} {M : MH}

end Go.Proofs.Ytlnmhjkagnfnaaa

/- Walks of the reference of layer 13: the Chinese remainders. -/
namespace Go.Proofs.Ytlnmhjkagnfnaaa
open Go.Hp Go.Fq
variable {G : World} {U U' : UH} {M : MH}

end Go.Proofs.Ytlnmhjkagnfnaaa
