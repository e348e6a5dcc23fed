/- Texts of this seat's own, merged: each begins with its own remark. -/
import Derived.Test.YtcndgdjelopmaaaGreatM18
import Derived.Test.YtcndgdjelopmaaaGreatM14
/- Simplest fractions: the plain law. -/
namespace Go.Proofs.YtcndgdjelopmaaaGreat
open Go.Hp

theorem rat_num_pos {q : Rat} : 0 < q.num ↔ 0 < q := by
  have h1 := Rat.num_nonneg (q := q)
  have h2 := Rat.num_eq_zero (q := q)
  constructor
  · intro h
    have : 0 ≤ q := h1.1 (by omega)
    have : q ≠ 0 := fun e => by have := h2.2 e; omega
    grind
  · intro h
    have : 0 ≤ q.num := h1.2 (by grind)
    have : q.num ≠ 0 := fun e => by have := h2.1 e; grind
    omega
theorem rcmp_eq {p q : Rat} : (p - q).num.sign = 0 ↔ p = q := by
  rw [Int.sign_eq_zero_iff_zero, Rat.num_eq_zero]
  constructor <;> intro h <;> grind
theorem rcmp_gt {p q : Rat} : 0 < (p - q).num.sign ↔ q < p := by
  rw [show (0 : Int) < (p - q).num.sign ↔ 0 < (p - q).num by
    rcases Int.lt_trichotomy (p - q).num 0 with h | h | h
    · rw [Int.sign_eq_neg_one_of_neg h]; omega
    · rw [h]; simp
    · rw [Int.sign_eq_one_of_pos h]; omega, rat_num_pos]
  constructor <;> intro h <;> grind
theorem rcmp_lt {p q : Rat} : (p - q).num.sign < 0 ↔ p < q := by
  have h1 := rcmp_gt (p := p) (q := q)
  have h2 := rcmp_eq (p := p) (q := q)
  constructor
  · intro h
    have : ¬ q < p := fun e => by have := h1.2 e; omega
    have : p ≠ q := fun e => by have := h2.2 e; omega
    grind
  · intro h
    have : ¬ 0 < (p - q).num.sign := fun e => by have := h1.1 e; grind
    have : ¬ (p - q).num.sign = 0 := fun e => by have := h2.1 e; grind
    omega
theorem rat_add_int (q : Rat) (k : Int) : (q + (k : Rat)).num = q.num + k * q.den ∧ (q + (k : Rat)).den = q.den := by
  have h := over_pos (n := q.num + k * q.den) (d := (q.den : Int)) (rat_den_pos q)
  have e : q + (k : Rat) = Rat.divInt (q.num + k * q.den) (q.den : Int) := by
    rw [rat_add]; simp
  have g : Int.gcd (q.num + k * q.den) (q.den : Int) = 1 := by
    rw [Int.gcd_add_mul_right_left]
    exact q.reduced
  rw [e, h.1]
  have h2 := h.2
  rw [g] at h2 ⊢
  simp at h2 ⊢
  omega
theorem rat_inv_pos {q : Rat} (h : 0 < q) : (q⁻¹).num = (q.den : Int) ∧ ((q⁻¹).den : Int) = q.num := by
  have h1 := rat_num_pos.2 h
  rw [Rat.num_inv, Rat.den_inv, if_neg (by omega), Int.sign_eq_one_of_pos h1]
  omega
theorem inv_lt {p q : Rat} (hp : 0 < p) (h : p < q) : q⁻¹ < p⁻¹ := by
  have hq : 0 < q := by grind
  obtain ⟨a1, a2⟩ := rat_inv_pos hp
  obtain ⟨b1, b2⟩ := rat_inv_pos hq
  rw [Rat.lt_iff] at h ⊢
  rw [a1, b1, a2, b2, Int.mul_comm, Int.mul_comm (p.den : Int)]
  exact h
theorem inv_pos {p : Rat} (hp : 0 < p) : 0 < p⁻¹ := Rat.inv_pos.2 hp
theorem one_div (x : Rat) : 1 / x = x⁻¹ := by grind

/-- y lies between lo and hi; the ends belong or not, and there may be no upper end. -/
def InS (lo hi : Rat) (li hiI e : Bool) (y : Rat) : Prop := (lo < y ∨ (li = true ∧ lo = y)) ∧ (e = true ∨ y < hi ∨ (hiI = true ∧ y = hi))
def Opt (lo hi : Rat) (li hiI e : Bool) (r : Rat) : Prop := InS lo hi li hiI e r ∧ ∀ y, InS lo hi li hiI e y → r.num ≤ y.num ∧ r.den ≤ y.den

theorem rat_eq_num {y : Rat} (h : y.den = 1) : y = (y.num : Rat) := Rat.ext rfl (by rw [h]; rfl)
theorem rat_num_eq (y : Rat) : (y.num : Rat) = y * (y.den : Rat) := by
  have h := rat_self y
  have hd : (y.den : Rat) ≠ 0 := by
    intro e
    have := Rat.natCast_eq_zero_iff.1 e
    exact y.den_nz this
  have h2 : y * ((y.den : Int) : Rat) = (y.num : Rat) := by
    refine Rat.ext ?_ ?_
    · rw [Rat.num_mul]; simp
      have := y.reduced
      rw [Int.natAbs_mul, Int.natAbs_natCast]
      rw [Nat.gcd_mul_left_left]
      rw [Int.mul_ediv_cancel]
      have := y.den_nz
      omega
    · rw [Rat.den_mul]; simp
      rw [Int.natAbs_mul, Int.natAbs_natCast, Nat.gcd_mul_left_left]
      exact Nat.div_self y.den_pos
  exact h2.symm

theorem opt_first {lo hi : Rat} {li hiI e : Bool} {f : Int} (h1 : 1 ≤ lo) (hin : InS lo hi li hiI e f) (hf : ∀ n : Int, (lo < n ∨ (li = true ∧ lo = n)) → f ≤ n) (hf2 : (f : Rat) ≤ lo + 1) : Opt lo hi li hiI e f := by
  refine ⟨hin, fun y hy => ?_⟩
  have hd := y.den_pos
  refine ⟨?_, ?_⟩
  · rw [Rat.num_intCast]
    by_cases h : y.den = 1
    · have e := rat_eq_num h
      refine hf _ ?_
      rw [← e]; exact hy.1
    · have h2 : (2 : Rat) ≤ (y.den : Rat) := by
        have : ((2 : Nat) : Rat) ≤ (y.den : Rat) := Rat.natCast_le_natCast.2 (by omega)
        exact this
      have h3 : lo ≤ y := by rcases hy.1 with h | h <;> grind
      have h4 := rat_num_eq y
      have h5 : y * 2 ≤ y * (y.den : Rat) := Rat.mul_le_mul_of_nonneg_left h2 (by grind)
      have h6 : (f : Rat) ≤ (y.num : Rat) := by grind
      exact Rat.intCast_le_intCast.1 h6
  · rw [Rat.den_intCast]; omega

theorem opt_inside {lo hi : Rat} {k : Int} {li hiI : Bool} {r : Rat} (h1 : lo < hi) (hk : (k : Rat) ≤ lo) (_hk2 : hi ≤ k + 1) (hlk : lo = k → li = false)
    (hr : Opt ((hi - k)⁻¹) ((lo - k)⁻¹) hiI li (decide (lo = k)) r) :
    0 < r ∧ InS lo hi li hiI false (k + r⁻¹) ∧ ((k + r⁻¹ : Rat).den : Int) = r.num ∧ (k + r⁻¹ : Rat).num = r.den + k * r.num ∧ ∀ y, InS lo hi li hiI false y → r.num ≤ y.den ∧ (0 ≤ k → r.den + k * r.num ≤ y.num) := by
  obtain ⟨⟨ha, hb⟩, hopt⟩ := hr
  have hpos : 0 < (hi - k)⁻¹ := inv_pos (by grind)
  have hr0 : 0 < r := by rcases ha with h | h <;> grind
  have hri := inv_pos hr0
  obtain ⟨i1, i2⟩ := rat_inv_pos hr0
  obtain ⟨j1, j2⟩ := rat_add_int r⁻¹ k
  rw [Rat.add_comm] at j1 j2
  refine ⟨hr0, ⟨?_, .inr ?_⟩, ?_, ?_, fun y hy => ?_⟩
  · rcases hb with h | h | ⟨h, h'⟩
    · have := of_decide_eq_true h
      left; grind
    · left
      by_cases e : lo = k
      · grind
      · have := inv_lt hr0 h
        rw [Rat.inv_inv] at this
        grind
    · by_cases e : lo = k
      · left; grind
      · right
        refine ⟨h, ?_⟩
        rw [h', Rat.inv_inv]; grind
  · rcases ha with h | ⟨h, h'⟩
    · left
      have := inv_lt hpos h
      rw [Rat.inv_inv] at this
      grind
    · right
      refine ⟨h, ?_⟩
      rw [← h', Rat.inv_inv]; grind
  · rw [j2]; exact i2
  · rw [j1, i1, i2]
  · have hy0 : 0 < y - k := by
      rcases hy.1 with h | ⟨h, h'⟩
      · grind
      · have : lo ≠ k := fun e => by rw [hlk e] at h; cases h
        grind
    have hin : InS ((hi - k)⁻¹) ((lo - k)⁻¹) hiI li (decide (lo = k)) (y - k)⁻¹ := by
      refine ⟨?_, ?_⟩
      · rcases hy.2 with h | h | ⟨h, h'⟩
        · cases h
        · left; exact inv_lt hy0 (by grind)
        · right; exact ⟨h, by rw [h']⟩
      · by_cases e : lo = k
        · left; exact decide_eq_true e
        · right
          rcases hy.1 with h | ⟨h, h'⟩
          · left; exact inv_lt (by grind) (by grind)
          · right; exact ⟨h, by rw [h']⟩
    obtain ⟨o1, o2⟩ := hopt _ hin
    obtain ⟨c1, c2⟩ := rat_inv_pos hy0
    obtain ⟨d1, d2⟩ := rat_add_int y (-k)
    have e : y + ((-k : Int) : Rat) = y - k := by grind
    rw [e] at d1 d2
    rw [c1, d2] at o1
    have o2' : (r.den : Int) ≤ (((y - k)⁻¹).den : Int) := by omega
    rw [c2, d1] at o2'
    refine ⟨o1, fun hk0 => ?_⟩
    have h3 : k * r.num ≤ k * (y.den : Int) := Int.mul_le_mul_of_nonneg_left o1 hk0
    rw [Int.neg_mul] at o2'
    omega

/-- The numbers of the next round: they are no longer. -/
theorem szq_back {hi : Rat} {k : Int} {K : Nat} (h : Szq hi K) (h0 : 0 < hi - k) (h1 : hi - k ≤ 1) : Szq ((hi - k)⁻¹) K ∧ ((hi - k)⁻¹).den ≤ hi.den ∧ (hi - k < 1 → ((hi - k)⁻¹).den < hi.den) := by
  obtain ⟨c1, c2⟩ := rat_inv_pos h0
  obtain ⟨d1, d2⟩ := rat_add_int hi (-k)
  have e : hi + ((-k : Int) : Rat) = hi - k := by grind
  rw [e] at d1 d2
  have hn := rat_num_eq (hi - k)
  rw [d2] at hn
  have hd : (0 : Rat) < (hi.den : Rat) := Rat.natCast_pos.2 hi.den_pos
  have hle : (hi - k).num ≤ (hi.den : Int) := by
    have h3 : (hi - k) * (hi.den : Rat) ≤ 1 * (hi.den : Rat) := Rat.mul_le_mul_of_nonneg_right h1 (by grind)
    rw [← hn, Rat.one_mul] at h3
    exact Rat.intCast_le_intCast.1 h3
  have hp := rat_num_pos.2 h0
  refine ⟨⟨?_, ?_⟩, by omega, fun hlt => ?_⟩
  · rw [c1, d2]; exact h.2
  · rw [c2]
    have := h.2
    unfold Sz at *
    omega
  · have h3 : (hi - k) * (hi.den : Rat) < 1 * (hi.den : Rat) := Rat.mul_lt_mul_of_pos_right hlt hd
    rw [← hn, Rat.one_mul] at h3
    have : (hi - k).num < (hi.den : Int) := Rat.intCast_lt_intCast.1 h3
    omega

theorem opt_sz {lo hi : Rat} {li hiI e : Bool} {r : Rat} {K : Nat} (h : Opt lo hi li hiI e r) (h0 : 0 < r) {y : Rat} (hy : InS lo hi li hiI e y) (hs : Szq y K) : Szq r K := by
  obtain ⟨a, b⟩ := h.2 y hy
  have := rat_num_pos.2 h0
  obtain ⟨s1, s2⟩ := hs
  unfold Szq Sz at *
  omega

/-! ### intervals -/
/-- r is the simplest of the numbers above lo up to hi. -/
def Best (lo hi r : Rat) : Prop := lo < r ∧ r ≤ hi ∧ (∀ y, lo < y → y ≤ hi → r.den ≤ y.den) ∧ (r.den = 1 → ∀ y, lo < y → y ≤ hi → y.den = 1 → r.num.natAbs ≤ y.num.natAbs)

theorem Best.sz {lo hi r : Rat} {K : Nat} (h : Best lo hi r) (h1 : Szq lo K) (h2 : Szq hi K) : Szq r (K + K) := by
  obtain ⟨a, b, c, -⟩ := h
  have hd := c hi (by grind) (by grind)
  have hnum : ∀ q : Rat, Szq q K → q ≤ ((4294967296 ^ K : Nat) : Rat) ∧ -((4294967296 ^ K : Nat) : Rat) ≤ q := by
    intro q hq
    have h3 := rat_num_eq q
    have h4 : (1 : Rat) ≤ (q.den : Rat) := by
      have : ((1 : Nat) : Rat) ≤ (q.den : Rat) := Rat.natCast_le_natCast.2 q.den_pos
      exact this
    have h5 : -((4294967296 ^ K : Nat) : Int) ≤ q.num ∧ q.num ≤ ((4294967296 ^ K : Nat) : Int) := by
      have := hq.1
      unfold Sz at this
      omega
    have h6 : ((-((4294967296 ^ K : Nat) : Int) : Int) : Rat) ≤ (q.num : Rat) := Rat.intCast_le_intCast.2 h5.1
    have h7 : (q.num : Rat) ≤ ((((4294967296 ^ K : Nat) : Int) : Int) : Rat) := Rat.intCast_le_intCast.2 h5.2
    rw [Rat.intCast_neg, Rat.intCast_natCast] at h6
    rw [Rat.intCast_natCast] at h7
    by_cases h0 : 0 ≤ q
    · have : q * 1 ≤ q * (q.den : Rat) := Rat.mul_le_mul_of_nonneg_left h4 h0
      have h9 : (0 : Rat) ≤ ((4294967296 ^ K : Nat) : Rat) := Rat.natCast_nonneg
      constructor <;> grind
    · have : (-q) * 1 ≤ (-q) * (q.den : Rat) := Rat.mul_le_mul_of_nonneg_left h4 (by grind)
      have h9 : (0 : Rat) ≤ ((4294967296 ^ K : Nat) : Rat) := Rat.natCast_nonneg
      constructor <;> grind
  have hh := hnum hi h2
  have hl := hnum lo h1
  have hrd : r.den < 4294967296 ^ K := by
    have := h2.2
    unfold Sz at this
    omega
  have h3 := rat_num_eq r
  have hd0 : (0 : Rat) ≤ (r.den : Rat) := Rat.natCast_nonneg
  have u1 : r * (r.den : Rat) ≤ ((4294967296 ^ K : Nat) : Rat) * (r.den : Rat) := Rat.mul_le_mul_of_nonneg_right (by grind) hd0
  have u2 : (-((4294967296 ^ K : Nat) : Rat)) * (r.den : Rat) ≤ r * (r.den : Rat) := Rat.mul_le_mul_of_nonneg_right (by grind) hd0
  rw [← h3] at u1 u2
  have e1 : ((4294967296 ^ K : Nat) : Rat) * (r.den : Rat) = (((4294967296 ^ K * r.den : Nat) : Int) : Rat) := by
    rw [Rat.intCast_natCast, Rat.natCast_mul]
  rw [Rat.neg_mul] at u2
  rw [e1] at u1 u2
  rw [← Rat.intCast_neg] at u2
  have v1 := Rat.intCast_le_intCast.1 u1
  have v2 := Rat.intCast_le_intCast.1 u2
  have hlt : 4294967296 ^ K * r.den < 4294967296 ^ K * 4294967296 ^ K := Nat.mul_lt_mul_of_pos_left hrd (Nat.pow_pos (by decide))
  rw [← Nat.pow_add] at hlt
  refine ⟨?_, ?_⟩
  · unfold Sz; omega
  · unfold Sz
    have : 4294967296 ^ K ≤ 4294967296 ^ (K + K) := Nat.pow_le_pow_right (by decide) (by omega)
    omega

end Go.Proofs.YtcndgdjelopmaaaGreat

/- Walks of rational: simplest fractions. -/
namespace Go.Proofs.YtcndgdjelopmaaaGreat
open Go.Hp
variable {G : World} {U : UH} {M : MH}

/-- A span as the program's struct. -/
def sval (lo hi : QV) (li hiI e : Bool) : Value := .agg #[.bool lo.num.neg, .slice lo.num.p lo.num.n lo.num.c, .bool lo.den.neg, .slice lo.den.p lo.den.n lo.den.c, .bool hi.num.neg, .slice hi.num.p hi.num.n hi.num.c, .bool hi.den.neg, .slice hi.den.p hi.den.n hi.den.c, .bool li, .bool hiI, .bool e]
def smu (lo hi : Rat) (e : Bool) : Nat := if e = true then 0 else lo.den + hi.den

/-- The contract of simplest, for spans up to a measure. -/
def SimpAt (n : Nat) : Prop := ∀ {G : World} {U : UH} {M : MH} {xl xh : QV} {lo hi : Rat} {li hiI e : Bool} {K : Nat}, xl.rep U M lo → xl.le K → xh.rep U M hi → xh.le K → 1 ≤ K → K ≤ 1000000000 → 1 ≤ lo → (e = true → li = true) → (e = false → lo < hi ∧ li = !hiI) → smu lo hi e ≤ n →
  Ct Tryz.prog 63 [sval xl xh li hiI e] G U M fun v U' D => ∃ (r : QV) (q : Rat), v = r.v ∧ r.nrm U' [] q ∧ Opt lo hi li hiI e q ∧ D = []

theorem zeroQV_rep : zeroQV.rep U M 0 := ⟨0, 0, ⟨[], Dig.nil, rfl⟩, ⟨[], Dig.nil, rfl⟩, by simp⟩

theorem szq_int {z : Int} {k : Nat} (h : Sz z k) (hk : 1 ≤ k) : Szq (z : Rat) k := ⟨h, sz_one hk⟩

theorem inside_ct {n : Nat} (IH : SimpAt n) {xl xh xk : QV} {lo hi : Rat} {k : Int} {li hiI : Bool} {K : Nat} (hl : xl.rep U M lo) (hnl : xl.le K) (hh : xh.rep U M hi) (hnh : xh.le K) (hK1 : 1 ≤ K) (hK : K ≤ 1000000000)
    (hxk : xk.rep U M (k : Rat)) (hnk : xk.le K) (h1 : lo < hi) (hk1 : (k : Rat) ≤ lo) (hk2 : lo < k + 1) (hk3 : hi ≤ k + 1) (hli : li = !hiI) (hlk : lo = k → li = false) (hμ : lo.den + hi.den ≤ n + 1) :
    Ct Tryz.prog 33 [sval xl xh li hiI false, xk.v] G U M fun v U' D => ∃ (r : QV) (q : Rat), v = r.v ∧ r.nrm U' [] (k + q⁻¹ : Rat) ∧ Opt ((hi - k)⁻¹) ((lo - k)⁻¹) hiI li (decide (lo = k)) q ∧ D = [] := by
  have sl := hl.sz hnl hK1
  have sh := hh.sz hnh hK1
  have sk := hxk.sz hnk hK1
  have s1 : Szq (1 : Rat) 1 := szq_int (z := 1) (sz_one (Nat.le_refl 1)) (Nat.le_refl 1)
  have ha : 0 < hi - k := by grind
  obtain ⟨sbk, db, -⟩ := szq_back sh ha (by grind)
  refine ct_of_st Tryz.func33 rfl rfl rfl rfl ?_
  repeat (first | refine run_S ?_ | refine w_box (fun _ => ?_) | refine w_al (fun _ => ?_))
  refine sl_call rfl rfl rfl rfl rfl rfl (fun _ => (qOf_ct (z := 1) (by decide) (by decide)).settle) ?_
  rintro v Uh2 D hU ⟨rfl, _, _, ⟨xh2, rfl, h2, -⟩, -, -, hs⟩
  replace h2 := h2.sett hs
  clear hs
  repeat (first | refine run_S ?_ | refine w_box (fun _ => ?_) | refine w_al (fun _ => ?_))
  refine st_draw [0, 1, 2, 3, 4, 5, 6, 7, 8, 9, 10] sym (by kernel_rfl) ?_
  repeat (first | refine run_S ?_ | refine w_box (fun _ => ?_) | refine w_al (fun _ => ?_))
  refine sl_call rfl rfl rfl rfl rfl rfl (fun _ => (qSub_ct (hh.up uc sb) (by omega) (hxk.up uc sb) (by omega)).settle) ?_
  rintro v Uh3 D hU ⟨rfl, _, _, ⟨xh3, rfl, h3, -⟩, -, -, hs⟩
  replace h3 := h3.sett hs
  clear hs
  repeat (first | refine run_S ?_ | refine w_box (fun _ => ?_) | refine w_al (fun _ => ?_))
  refine sl_call rfl rfl rfl rfl rfl rfl (fun _ => (qQuo_ct (h2.rep.up uc sb) (h2.le (s1) (by omega)) (h3.rep.up uc sb) (h3.le (sh.sub sk) (by omega))).settle) ?_
  rintro v U4 D hU ⟨rfl, _, _, ⟨x4, e4, rfl, -, h4, -⟩, -, -, hs⟩
  obtain ⟨rfl, h4o⟩ := h4 (by grind)
  replace h4 := h4o.sett hs
  clear hs
  rw [show ((1 : Int) : Rat) = 1 from rfl, one_div] at h4
  repeat (first | refine run_S ?_ | refine w_box (fun _ => ?_) | refine w_al (fun _ => ?_))
  refine sl_storeF 0 sym rfl rfl rfl rfl rfl rfl rfl rfl rfl rfl rfl ?_
  repeat (first | refine run_S ?_ | refine w_box (fun _ => ?_) | refine w_al (fun _ => ?_))
  refine st_draw [0, 1, 2, 3, 4, 5, 6, 7, 8, 9, 10, 11] sym (by kernel_rfl) ?_
  repeat (first | refine run_S ?_ | refine w_box (fun _ => ?_) | refine w_al (fun _ => ?_))
  refine sl_call rfl rfl rfl rfl rfl rfl (fun _ => (qSub_ct (hl.up uc sb) (by omega) (hxk.up uc sb) (by omega)).settle) ?_
  rintro v Uh5 D hU ⟨rfl, _, _, ⟨xh5, rfl, h5, -⟩, -, -, hs⟩
  replace h5 := h5.sett hs
  clear hs
  repeat (first | refine run_S ?_ | refine w_box (fun _ => ?_) | refine w_al (fun _ => ?_))
  refine sl_call rfl rfl rfl rfl rfl rfl (fun _ => (qQuo_ct (h2.rep.up uc sb) (h2.le (s1) (by omega)) (h5.rep.up uc sb) (h5.le (sl.sub sk) (by omega))).settle) ?_
  rintro v U6 D hU ⟨rfl, _, _, ⟨x6, e6, rfl, hz, h6, -⟩, -, -, hs⟩
  have hback : ∃ hi' : Rat, x6.rep U6 [] hi' ∧ x6.le K ∧ e6 = (if lo = k then 5 else 0) ∧ (lo ≠ k → hi' = (lo - k)⁻¹ ∧ hi'.den < lo.den) := by
    by_cases e : lo = k
    · obtain ⟨rfl, rfl, rfl⟩ := hz (by grind)
      exact ⟨0, zeroQV_rep, ⟨Nat.zero_le _, Nat.zero_le _⟩, by rw [if_pos e], fun h => absurd e h⟩
    · obtain ⟨rfl, h6o⟩ := h6 (by grind)
      replace h6 := h6o.sett hs
      rw [show ((1 : Int) : Rat) = 1 from rfl, one_div] at h6
      obtain ⟨sb2, -, db2⟩ := szq_back (k := k) sl (by grind) (by grind)
      exact ⟨_, h6.rep, h6.le sb2 (Nat.le_refl _), by rw [if_neg e], fun _ => ⟨rfl, db2 (by grind)⟩⟩
  clear hz h6 hs
  obtain ⟨hi', hr6, hn6, rfl, hhi⟩ := hback
  repeat (first | refine run_S ?_ | refine w_box (fun _ => ?_) | refine w_al (fun _ => ?_))
  refine sl_storeF 0 sym rfl rfl rfl rfl rfl rfl rfl rfl rfl rfl rfl ?_
  repeat (first | refine run_S ?_ | refine w_box (fun _ => ?_) | refine w_al (fun _ => ?_))
  have e7 : dec ((if lo = (k : Rat) then (5 : Int) else 0) ≠ 0) = decide (lo = k) := by
    rw [dec_eq]
    by_cases e : lo = k <;> simp [e]
  rw [e7]
  refine sl_storeF 0 sym rfl rfl rfl rfl rfl rfl rfl rfl rfl rfl rfl ?_
  repeat (first | refine run_S ?_ | refine w_box (fun _ => ?_) | refine w_al (fun _ => ?_))
  refine st_draw [0, 1, 2, 3, 4, 5, 6, 7, 8, 9] sym (by kernel_rfl) ?_
  repeat (first | refine run_S ?_ | refine w_box (fun _ => ?_) | refine w_al (fun _ => ?_))
  have hin : InS ((hi - k)⁻¹) hi' hiI li (decide (lo = k)) = InS ((hi - k)⁻¹) ((lo - k)⁻¹) hiI li (decide (lo = k)) := by
    by_cases e : lo = k
    · rw [decide_eq_true e]; funext y; simp [InS]
    · rw [(hhi e).1]
  have hlo1 : 1 ≤ (hi - k)⁻¹ := by
    by_cases e : hi - k = 1
    · rw [e]; grind
    · have := inv_lt ha (q := 1) (by grind)
      grind
  have hcall : ∀ M2, Ct Tryz.prog 63 [sval x4 x6 hiI li (decide (lo = k))] G U6 M2 fun v U' D => ∃ (r : QV) (q : Rat), v = r.v ∧ r.nrm U' [] q ∧ Opt ((hi - k)⁻¹) hi' hiI li (decide (lo = k)) q ∧ D = [] := by
    intro M2
    refine IH (K := K) (h4.rep.up uc sb) (h4.le sbk (Nat.le_refl _)) (hr6.up uc sb) hn6 hK1 hK hlo1 (fun e => ?_) (fun e => ?_) ?_
    · have := hlk (of_decide_eq_true e)
      rw [this] at hli
      cases hiI <;> simp at hli ⊢
    · have e := of_decide_eq_false e
      rw [(hhi e).1]
      exact ⟨inv_lt (by grind) (by grind), by rw [hli]; simp⟩
    · unfold smu
      by_cases e : lo = k
      · rw [decide_eq_true e, if_pos rfl]; omega
      · rw [decide_eq_false e, if_neg (by simp)]
        have := (hhi e).2
        omega
  refine sl_call rfl rfl rfl rfl rfl rfl (fun _ => hcall _) ?_
  rintro v U8 D hU ⟨x8, q, rfl, h8, hopt, rfl⟩
  have hopt2 : Opt ((hi - k)⁻¹) ((lo - k)⁻¹) hiI li (decide (lo = k)) q := by
    unfold Opt at hopt ⊢
    rw [hin] at hopt
    exact hopt
  obtain ⟨hq0, o1, o2, o3, o4⟩ := opt_inside h1 hk1 hk3 hlk hopt2
  have sq : Szq q K := by
    by_cases e : hiI = true
    · refine opt_sz hopt2 hq0 (y := (hi - k)⁻¹) ⟨.inr ⟨e, rfl⟩, ?_⟩ sbk
      by_cases e2 : lo = k
      · left; exact decide_eq_true e2
      · right; left; exact inv_lt (by grind) (by grind)
    · have hli2 : li = true := by rw [hli]; cases hiI <;> simp at e ⊢
      have e2 : lo ≠ k := fun e2 => by rw [hlk e2] at hli2; cases hli2
      obtain ⟨sb2, -, -⟩ := szq_back (k := k) sl (by grind) (by grind)
      exact opt_sz hopt2 hq0 (y := (lo - k)⁻¹) ⟨.inl (inv_lt (by grind) (by grind)), .inr (.inr ⟨hli2, rfl⟩)⟩ sb2
  repeat (first | refine run_S ?_ | refine w_box (fun _ => ?_) | refine w_al (fun _ => ?_))
  refine sl_call rfl rfl rfl rfl rfl rfl (fun _ => (qQuo_ct (h2.rep.up uc sb) (h2.le (s1) (by omega)) (h8.rep.up uc sb) (h8.le (sq) (by omega))).settle) ?_
  rintro v U9 D hU ⟨rfl, _, _, ⟨x9, e9, rfl, -, h9, -⟩, -, -, hs⟩
  obtain ⟨rfl, h9o⟩ := h9 (by grind)
  replace h9 := h9o.sett hs
  clear hs
  repeat (first | refine run_S ?_ | refine w_box (fun _ => ?_) | refine w_al (fun _ => ?_))
  refine sl_call rfl rfl rfl rfl rfl rfl (fun _ => (qAdd_ct (hxk.up uc sb) (by omega) (h9.rep.up uc sb) (h9.le (s1.div sq) (by omega))).settle) ?_
  rintro v Uh10 D hU ⟨rfl, _, _, ⟨xh10, rfl, h10, -⟩, -, -, hs⟩
  replace h10 := h10.sett hs
  clear hs
  repeat (first | refine run_S ?_ | refine w_box (fun _ => ?_) | refine w_al (fun _ => ?_))
  rw [show ((1 : Int) : Rat) = 1 from rfl, one_div] at h10
  exact sk_ret [] sym rfl (.cons (.cell 3 rfl rfl rfl) .nil) uc sb (.inl rfl) ⟨xh10, q, rfl, h10, hopt2, rfl⟩

end Go.Proofs.YtcndgdjelopmaaaGreat

/- Walks of rational: simplest fractions, second part. -/
namespace Go.Proofs.YtcndgdjelopmaaaGreat
open Go.Hp
variable {G : World} {U : UH} {M : MH}

theorem simplest_of {xl xh : QV} {lo hi : Rat} {li hiI e : Bool} {K : Nat} (hl : xl.rep U M lo) (hnl : xl.le K) (hh : xh.rep U M hi) (hnh : xh.le K) (hK1 : 1 ≤ K) (hK : K ≤ 1000000000) (h1lo : 1 ≤ lo) (_hel : e = true → li = true) (hne : e = false → lo < hi ∧ li = !hiI)
    (IH : e = false → ∃ m, SimpAt m ∧ lo.den + hi.den ≤ m + 1) :
    Ct Tryz.prog 63 [sval xl xh li hiI e] G U M fun v U' D => ∃ (r : QV) (q : Rat), v = r.v ∧ r.nrm U' [] q ∧ Opt lo hi li hiI e q ∧ D = [] := by
  have sl := hl.sz hnl hK1
  have sh := hh.sz hnh hK1
  have sf := sz_floor sl
  have f1 := Rat.floor_le lo
  have f2 := Rat.lt_floor_add_one lo
  rw [Rat.intCast_add, Rat.intCast_one] at f2
  have sf2 : Sz (lo.floor + 1) (K + 1) := sf.add (sz_one hK1)
  have hleast : ∀ n : Int, lo < n → lo.floor + 1 ≤ n := fun n hn => by
    have : (lo.floor : Rat) < (n : Rat) := by grind
    have := Rat.intCast_lt_intCast.1 this
    omega
  refine ct_of_st Tryz.func63 rfl rfl rfl rfl ?_
  repeat (first | refine run_S ?_ | refine w_box (fun _ => ?_) | refine w_al (fun _ => ?_))
  rename_i b1 b2
  refine sl_call rfl rfl rfl rfl rfl rfl (fun _ => qFloor_ct (hl.up uc sb) (by omega)) ?_
  rintro v Uh1 D hU ⟨xh1, rfl, h1, rfl⟩
  repeat (first | refine run_S ?_ | refine w_box (fun _ => ?_) | refine w_al (fun _ => ?_))
  refine sl_call rfl rfl rfl rfl rfl rfl (fun _ => (qWhole_ct (h1.rep.up uc sb) (h1.le (sf) (by omega))).settle) ?_
  rintro v Uh2 D hU ⟨rfl, _, _, ⟨xh2, rfl, h2, -⟩, -, -, hs⟩
  replace h2 := h2.sett hs
  clear hs
  repeat (first | refine run_O ?_ | refine w_box (fun _ => ?_) | refine w_al (fun _ => ?_))
  rename_i b3
  refine st_seq ?_
  repeat (first | refine run_O ?_ | refine w_box (fun _ => ?_) | refine w_al (fun _ => ?_))
  rename_i b4
  refine st_seq_cut (fun E U' M' => ∃ (f : Int) (xf : QV), xf.nrm U' [] (f : Rat) ∧ Sz f (K + 1) ∧ (lo < f ∨ (li = true ∧ lo = f)) ∧ (∀ n : Int, (lo < n ∨ (li = true ∧ lo = n)) → f ≤ n) ∧ (f : Rat) ≤ lo + 1 ∧ (lo = f ∨ (f = lo.floor + 1 ∧ (lo = (lo.floor : Rat) → li = false))) ∧
    E = [(3, .pointer (some ⟨b3, 0, none⟩)), (4, .pointer (some ⟨b4, 0, none⟩)), (1, .pointer (some ⟨b1, 0, none⟩)), (2, .pointer (some ⟨b2, 0, none⟩))] ∧ ULe Uh2 U' ∧
    M' = (b4, .var xf.v, 26) :: (b3, .var xh2.v, 26) :: (b2, .var zeroQV.v, 26) :: (b1, .var (sval xl xh li hiI e), 62) :: M) ?_ ?_
  · try refine run_s ?_
    refine sl_gb rfl rfl (fun h3 => ?_) (fun h3 => ?_)
    · have hli : li = false := by cases li <;> simp at h3 ⊢
      repeat (first | refine run_S ?_ | refine w_box (fun _ => ?_) | refine w_al (fun _ => ?_))
      refine st_draw [0, 1, 2, 3] sym (by kernel_rfl) ?_
      repeat (first | refine run_S ?_ | refine w_box (fun _ => ?_) | refine w_al (fun _ => ?_))
      refine sl_call rfl rfl rfl rfl rfl rfl (fun _ => (qOf_ct (z := 1) (by decide) (by decide)).settle) ?_
      rintro v Uh4 D hU ⟨rfl, _, _, ⟨xh4, rfl, h4, -⟩, -, -, hs⟩
      replace h4 := h4.sett hs
      clear hs
      repeat (first | refine run_S ?_ | refine w_box (fun _ => ?_) | refine w_al (fun _ => ?_))
      refine sl_call rfl rfl rfl rfl rfl rfl (fun _ => (qAdd_ct (h2.rep.up uc sb) (h2.le (szq_int sf hK1) (by omega)) (h4.rep.up uc sb) (h4.le (szq_int (sz_one (Nat.le_refl 1)) (Nat.le_refl 1)) (by omega))).settle) ?_
      rintro v Uh5 D hU ⟨rfl, _, _, ⟨xh5, rfl, h5, -⟩, -, -, hs⟩
      replace h5 := h5.sett hs
      clear hs
      repeat (first | refine run_S ?_ | refine w_box (fun _ => ?_) | refine w_al (fun _ => ?_))
      rw [← Rat.intCast_add] at h5
      exact sk_cut (E' := [(3, .pointer (some ⟨b3, 0, none⟩)), (4, .pointer (some ⟨b4, 0, none⟩)), (1, .pointer (some ⟨b1, 0, none⟩)), (2, .pointer (some ⟨b2, 0, none⟩))]) ⟨rfl, rfl, rfl, rfl, trivial⟩
        ⟨lo.floor + 1, xh5, h5, sf2, .inl (by rw [Rat.intCast_add, Rat.intCast_one]; exact f2), (fun n hn => by
          rcases hn with hn | ⟨hn, _⟩
          · exact hleast n hn
          · rw [hli] at hn; cases hn), by rw [Rat.intCast_add, Rat.intCast_one]; grind, .inr ⟨rfl, fun _ => hli⟩, rfl, uc, rfl⟩
    · have hli : li = true := by cases li <;> simp at h3 ⊢
      repeat (first | refine run_S ?_ | refine w_box (fun _ => ?_) | refine w_al (fun _ => ?_))
      refine sl_call rfl rfl rfl rfl rfl rfl (fun _ => qCmp_ct (h2.rep.up uc sb) (h2.le (szq_int sf hK1) (by omega)) (hl.up uc sb) (by omega)) ?_
      rintro v _ D hU ⟨rfl, -, rfl⟩
      repeat (first | refine run_S ?_ | refine w_box (fun _ => ?_) | refine w_al (fun _ => ?_))
      refine st_dec rfl (fun h4 => ?_) (fun h4 => ?_)
      · have h4' := rcmp_lt.1 h4
        repeat (first | refine run_S ?_ | refine w_box (fun _ => ?_) | refine w_al (fun _ => ?_))
        refine st_draw [0, 1, 2, 3] sym (by kernel_rfl) ?_
        repeat (first | refine run_S ?_ | refine w_box (fun _ => ?_) | refine w_al (fun _ => ?_))
        refine sl_call rfl rfl rfl rfl rfl rfl (fun _ => (qOf_ct (z := 1) (by decide) (by decide)).settle) ?_
        rintro v Uh5 D hU ⟨rfl, _, _, ⟨xh5, rfl, h5, -⟩, -, -, hs⟩
        replace h5 := h5.sett hs
        clear hs
        repeat (first | refine run_S ?_ | refine w_box (fun _ => ?_) | refine w_al (fun _ => ?_))
        refine sl_call rfl rfl rfl rfl rfl rfl (fun _ => (qAdd_ct (h2.rep.up uc sb) (h2.le (szq_int sf hK1) (by omega)) (h5.rep.up uc sb) (h5.le (szq_int (sz_one (Nat.le_refl 1)) (Nat.le_refl 1)) (by omega))).settle) ?_
        rintro v Uh6 D hU ⟨rfl, _, _, ⟨xh6, rfl, h6, -⟩, -, -, hs⟩
        replace h6 := h6.sett hs
        clear hs
        repeat (first | refine run_S ?_ | refine w_box (fun _ => ?_) | refine w_al (fun _ => ?_))
        rw [← Rat.intCast_add] at h6
        exact sk_cut (E' := [(3, .pointer (some ⟨b3, 0, none⟩)), (4, .pointer (some ⟨b4, 0, none⟩)), (1, .pointer (some ⟨b1, 0, none⟩)), (2, .pointer (some ⟨b2, 0, none⟩))]) ⟨rfl, rfl, rfl, rfl, trivial⟩
          ⟨lo.floor + 1, xh6, h6, sf2, .inl (by rw [Rat.intCast_add, Rat.intCast_one]; exact f2), (fun n hn => by
            rcases hn with hn | ⟨_, hn⟩
            · exact hleast n hn
            · rw [hn] at h4'
              have := Rat.intCast_lt_intCast.1 h4'
              rw [hn]
              omega), by rw [Rat.intCast_add, Rat.intCast_one]; grind, .inr ⟨rfl, fun e2 => by exfalso; grind⟩, rfl, uc, rfl⟩
      · have h4' : ¬ (lo.floor : Rat) < lo := fun h => h4 (rcmp_lt.2 h)
        have he : lo = (lo.floor : Rat) := by grind
        repeat (first | refine run_S ?_ | refine w_box (fun _ => ?_) | refine w_al (fun _ => ?_))
        exact sk_cut (E' := [(3, .pointer (some ⟨b3, 0, none⟩)), (4, .pointer (some ⟨b4, 0, none⟩)), (1, .pointer (some ⟨b1, 0, none⟩)), (2, .pointer (some ⟨b2, 0, none⟩))]) ⟨rfl, rfl, rfl, rfl, trivial⟩
          ⟨lo.floor, xh2, h2.up uc sb, sf.mono (by omega), .inr ⟨hli, he⟩, (fun n hn => by
            rcases hn with hn | ⟨_, hn⟩
            · have := hleast n hn; omega
            · rw [hn, Rat.floor_intCast]; omega), by grind, .inl he, rfl, uc, rfl⟩
  · rintro E U' M' ⟨f, xf, hf, hsf, p1, p2, p3, p4, rfl, hU2, rfl⟩
    have sff : Szq (f : Rat) (K + 1) := szq_int hsf (by omega)
    refine st_seq_cut (fun E U'' M' => e = false ∧ ¬ (f : Rat) < hi ∧ E = [(3, .pointer (some ⟨b3, 0, none⟩)), (4, .pointer (some ⟨b4, 0, none⟩)), (1, .pointer (some ⟨b1, 0, none⟩)), (2, .pointer (some ⟨b2, 0, none⟩))] ∧ ULe U' U'' ∧
      M' = (b4, .var xf.v, 26) :: (b3, .var xh2.v, 26) :: (b2, .var zeroQV.v, 26) :: (b1, .var (sval xl xh li hiI e), 62) :: M) ?_ ?_
    · try refine run_s ?_
      refine sl_call rfl rfl rfl rfl rfl rfl (fun _ => qCmp_ct (hf.rep.up uc sb) (hf.le (sff) (by omega)) (hh.up uc sb) (by omega)) ?_
      rintro v _ D hU ⟨rfl, -, rfl⟩
      repeat (first | refine run_S ?_ | refine w_box (fun _ => ?_) | refine w_al (fun _ => ?_))
      refine sl_gb rfl rfl (fun h3 => ?_) (fun h3 => ?_)
      · repeat (first | refine run_S ?_ | refine w_box (fun _ => ?_) | refine w_al (fun _ => ?_))
        exact sk_ret [] sym rfl (.cons (.cell 2 rfl rfl rfl) .nil) uc sb (.inl rfl) ⟨xf, _, rfl, hf.up uc sb, opt_first h1lo ⟨p1, .inl h3⟩ p2 p3, rfl⟩
      repeat (first | refine run_S ?_ | refine w_box (fun _ => ?_) | refine w_al (fun _ => ?_))
      refine sl_gdec rfl rfl (fun h4 => ?_) (fun h4 => ?_)
      · repeat (first | refine run_S ?_ | refine w_box (fun _ => ?_) | refine w_al (fun _ => ?_))
        exact sk_ret [] sym rfl (.cons (.cell 2 rfl rfl rfl) .nil) uc sb (.inl rfl) ⟨xf, _, rfl, hf.up uc sb, opt_first h1lo ⟨p1, .inr (.inl (rcmp_lt.1 h4))⟩ p2 p3, rfl⟩
      have hnlt : ¬ (f : Rat) < hi := fun h => h4 (rcmp_lt.2 h)
      repeat (first | refine run_S ?_ | refine w_box (fun _ => ?_) | refine w_al (fun _ => ?_))
      refine sl_gdec rfl rfl (fun h5 => ?_) (fun h5 => ?_)
      · repeat (first | refine run_S ?_ | refine w_box (fun _ => ?_) | refine w_al (fun _ => ?_))
        refine st_cond rfl (fun h6 => ?_) (fun h6 => ?_)
        · repeat (first | refine run_S ?_ | refine w_box (fun _ => ?_) | refine w_al (fun _ => ?_))
          exact sk_ret [] sym rfl (.cons (.cell 2 rfl rfl rfl) .nil) uc sb (.inl rfl) ⟨xf, _, rfl, hf.up uc sb, opt_first h1lo ⟨p1, .inr (.inr ⟨h6, rcmp_eq.1 h5⟩)⟩ p2 p3, rfl⟩
        · repeat (first | refine run_S ?_ | refine w_box (fun _ => ?_) | refine w_al (fun _ => ?_))
          exact sk_cut (E' := [(3, .pointer (some ⟨b3, 0, none⟩)), (4, .pointer (some ⟨b4, 0, none⟩)), (1, .pointer (some ⟨b1, 0, none⟩)), (2, .pointer (some ⟨b2, 0, none⟩))]) ⟨rfl, rfl, rfl, rfl, trivial⟩ ⟨h3, hnlt, rfl, uc, rfl⟩
      · repeat (first | refine run_S ?_ | refine w_box (fun _ => ?_) | refine w_al (fun _ => ?_))
        exact sk_cut (E' := [(3, .pointer (some ⟨b3, 0, none⟩)), (4, .pointer (some ⟨b4, 0, none⟩)), (1, .pointer (some ⟨b1, 0, none⟩)), (2, .pointer (some ⟨b2, 0, none⟩))]) ⟨rfl, rfl, rfl, rfl, trivial⟩ ⟨h3, hnlt, rfl, uc, rfl⟩
    · rintro E U'' M' ⟨he, hnlt, rfl, hU3, rfl⟩
      subst he
      obtain ⟨hlt, hli⟩ := hne rfl
      obtain ⟨m, hm, hμ⟩ := IH rfl
      obtain ⟨rfl, hlk⟩ : f = lo.floor + 1 ∧ (lo = (lo.floor : Rat) → li = false) := by
        rcases p4 with h | h
        · exfalso; grind
        · exact h
      rw [Rat.intCast_add, Rat.intCast_one] at hnlt
      have hk3 : hi ≤ (lo.floor : Rat) + 1 := by grind
      have hk0 : 0 ≤ lo.floor := Rat.le_floor_iff.2 (by rw [Rat.intCast_zero]; grind)
      try refine run_s ?_
      refine sl_call rfl rfl rfl rfl rfl rfl (fun _ => inside_ct hm (hl.up uc sb) hnl (hh.up uc sb) hnh hK1 hK (h2.rep.up uc sb) (h2.le (szq_int sf hK1) (Nat.le_refl _)) hlt f1 f2 hk3 hli hlk hμ) ?_
      rintro v U5 D hU ⟨r, q, rfl, hr, hopt, rfl⟩
      obtain ⟨hq0, o1, o2, o3, o4⟩ := opt_inside hlt f1 hk3 hlk hopt
      repeat (first | refine run_S ?_ | refine w_box (fun _ => ?_) | refine w_al (fun _ => ?_))
      exact sk_ret [] sym rfl (.cons (.cell 2 rfl rfl rfl) .nil) uc sb (.inl rfl) ⟨r, _, rfl, hr, ⟨o1, fun y hy => by
        obtain ⟨a, b⟩ := o4 y hy
        exact ⟨by rw [o3]; exact b hk0, by omega⟩⟩, rfl⟩

theorem simplest_at : ∀ n, SimpAt n := by
  intro n
  induction n with
  | zero =>
    intro G U M xl xh lo hi li hiI e K hl hnl hh hnh hK1 hK h1 h2 h3 hμ
    refine simplest_of hl hnl hh hnh hK1 hK h1 h2 h3 (fun he => ?_)
    exfalso
    have := lo.den_pos
    unfold smu at hμ
    rw [he, if_neg (by simp)] at hμ
    omega
  | succ n ih =>
    intro G U M xl xh lo hi li hiI e K hl hnl hh hnh hK1 hK h1 h2 h3 hμ
    refine simplest_of hl hnl hh hnh hK1 hK h1 h2 h3 (fun he => ⟨n, ih, ?_⟩)
    unfold smu at hμ
    rwa [he, if_neg (by simp)] at hμ

/-- An interval as the program's struct. -/
def inval (lo hi : QV) : Value := .agg #[.bool lo.num.neg, .slice lo.num.p lo.num.n lo.num.c, .bool lo.den.neg, .slice lo.den.p lo.den.n lo.den.c, .bool hi.num.neg, .slice hi.num.p hi.num.n hi.num.c, .bool hi.den.neg, .slice hi.den.p hi.den.n hi.den.c]

theorem int_best {lo hi y : Rat} (h1 : lo < y) (h2 : y ≤ hi) (h3 : y.den = 1) : lo.floor + 1 ≤ y.num ∧ y.num ≤ hi.floor := by
  have e := rat_eq_num h3
  have f1 := Rat.floor_le lo
  constructor
  · have : (lo.floor : Rat) < (y.num : Rat) := by grind
    have := Rat.intCast_lt_intCast.1 this
    omega
  · exact Rat.le_floor_iff.2 (by rw [← e]; exact h2)

theorem Simplest_ct {xl xh : QV} {lo hi : Rat} {K : Nat} (hl : xl.rep U M lo) (hnl : xl.le K) (hh : xh.rep U M hi) (hnh : xh.le K) (hK1 : 1 ≤ K) (hK : K ≤ 1000000000) :
    Ct Tryz.prog 13 [inval xl xh] G U M fun v U' D => ∃ (r : QV) (e : Int), v = .tuple #[r.v, .int .i64 e] ∧ (hi ≤ lo → e = 2 ∧ r = zeroQV) ∧ (lo < hi → e = 0 ∧ ∃ q, r.nrm U' [] q ∧ Best lo hi q) ∧ D = [] := by
  have sl := hl.sz hnl hK1
  have sh := hh.sz hnh hK1
  have sf := sz_floor sl
  have sf' := sz_floor sh
  have f1 := Rat.floor_le lo
  have f2 := Rat.lt_floor_add_one lo
  have g1 := Rat.floor_le hi
  have g2 := Rat.lt_floor_add_one hi
  have s1 : Szq ((1 : Int) : Rat) 1 := szq_int (sz_one (Nat.le_refl 1)) (Nat.le_refl 1)
  have sf2 : Sz (lo.floor + 1) (K + 1) := sf.add (sz_one hK1)
  refine ct_of_st Tryz.func13 rfl rfl rfl rfl ?_
  repeat (first | refine run_S ?_ | refine w_box (fun _ => ?_) | refine w_al (fun _ => ?_))
  refine st_draw [0, 1, 3, 4, 2, 5, 6, 7, 8, 9] sym (by kernel_rfl) ?_
  repeat (first | refine run_S ?_ | refine w_box (fun _ => ?_) | refine w_al (fun _ => ?_))
  refine sl_call rfl rfl rfl rfl rfl rfl (fun _ => (qNormal_ct (hl.up uc sb) (by omega)).settle) ?_
  rintro v Uh1 D hU ⟨rfl, _, _, ⟨xh1, rfl, h1, -⟩, -, -, hs⟩
  replace h1 := h1.sett hs
  clear hs
  repeat (first | refine run_S ?_ | refine w_box (fun _ => ?_) | refine w_al (fun _ => ?_))
  refine sl_call rfl rfl rfl rfl rfl rfl (fun _ => (qNormal_ct (hh.up uc sb) (by omega)).settle) ?_
  rintro v Uh2 D hU ⟨rfl, _, _, ⟨xh2, rfl, h2, -⟩, -, -, hs⟩
  replace h2 := h2.sett hs
  clear hs
  repeat (first | refine run_S ?_ | refine w_box (fun _ => ?_) | refine w_al (fun _ => ?_))
  refine sl_call rfl rfl rfl rfl rfl rfl (fun _ => qCmp_ct (h1.rep.up uc sb) (h1.le (sl) (by omega)) (h2.rep.up uc sb) (h2.le (sh) (by omega))) ?_
  rintro v _ D hU ⟨rfl, -, rfl⟩
  repeat (first | refine run_S ?_ | refine w_box (fun _ => ?_) | refine w_al (fun _ => ?_))
  refine st_dec rfl (fun h3 => ?_) (fun h3 => ?_)
  · have hle : ¬ lo < hi := fun h => by have := rcmp_lt.2 h; omega
    repeat (first | refine run_S ?_ | refine w_box (fun _ => ?_) | refine w_al (fun _ => ?_))
    exact sk_ret [] sym rfl (.cons (.cell 2 rfl rfl rfl) (.cons (.tmp rfl) .nil)) uc sb (.inl rfl) ⟨zeroQV, 2, rfl, fun _ => ⟨rfl, rfl⟩, fun h => absurd h hle, rfl⟩
  have hlt : lo < hi := rcmp_lt.1 (by omega)
  have hnle : ¬ hi ≤ lo := by grind
  repeat (first | refine run_S ?_ | refine w_box (fun _ => ?_) | refine w_al (fun _ => ?_))
  refine st_draw [0, 5, 1, 2, 3, 4, 6, 7, 8, 9, 10, 11] sym (by kernel_rfl) ?_
  repeat (first | refine run_S ?_ | refine w_box (fun _ => ?_) | refine w_al (fun _ => ?_))
  refine sl_call rfl rfl rfl rfl rfl rfl (fun _ => qFloor_ct (h1.rep.up uc sb) (h1.le (sl) (by omega))) ?_
  rintro v Uh4 D hU ⟨xh4, rfl, h4, rfl⟩
  repeat (first | refine run_S ?_ | refine w_box (fun _ => ?_) | refine w_al (fun _ => ?_))
  refine sl_call rfl rfl rfl rfl rfl rfl (fun _ => (qWhole_ct (h4.rep.up uc sb) (h4.le (sf) (by omega))).settle) ?_
  rintro v Uh5 D hU ⟨rfl, _, _, ⟨xh5, rfl, h5, -⟩, -, -, hs⟩
  replace h5 := h5.sett hs
  clear hs
  repeat (first | refine run_S ?_ | refine w_box (fun _ => ?_) | refine w_al (fun _ => ?_))
  refine sl_call rfl rfl rfl rfl rfl rfl (fun _ => (qOf_ct (z := 1) (by decide) (by decide)).settle) ?_
  rintro v Uh6 D hU ⟨rfl, _, _, ⟨xh6, rfl, h6, -⟩, -, -, hs⟩
  replace h6 := h6.sett hs
  clear hs
  repeat (first | refine run_S ?_ | refine w_box (fun _ => ?_) | refine w_al (fun _ => ?_))
  refine sl_call rfl rfl rfl rfl rfl rfl (fun _ => (qAdd_ct (h5.rep.up uc sb) (h5.le (szq_int sf hK1) (by omega)) (h6.rep.up uc sb) (h6.le (s1) (by omega))).settle) ?_
  rintro v Uh7 D hU ⟨rfl, _, _, ⟨xh7, rfl, h7, -⟩, -, -, hs⟩
  replace h7 := h7.sett hs
  clear hs
  repeat (first | refine run_S ?_ | refine w_box (fun _ => ?_) | refine w_al (fun _ => ?_))
  rw [← Rat.intCast_add] at h7
  refine sl_call rfl rfl rfl rfl rfl rfl (fun _ => qFloor_ct (h2.rep.up uc sb) (h2.le (sh) (by omega))) ?_
  rintro v Uh8 D hU ⟨xh8, rfl, h8, rfl⟩
  repeat (first | refine run_S ?_ | refine w_box (fun _ => ?_) | refine w_al (fun _ => ?_))
  refine sl_call rfl rfl rfl rfl rfl rfl (fun _ => (qWhole_ct (h8.rep.up uc sb) (h8.le (sf') (by omega))).settle) ?_
  rintro v Uh9 D hU ⟨rfl, _, _, ⟨xh9, rfl, h9, -⟩, -, -, hs⟩
  replace h9 := h9.sett hs
  clear hs
  repeat (first | refine run_S ?_ | refine w_box (fun _ => ?_) | refine w_al (fun _ => ?_))
  refine sl_call rfl rfl rfl rfl rfl rfl (fun _ => qCmp_ct (h7.rep.up uc sb) (h7.le (szq_int sf2 (by omega)) (by omega)) (h9.rep.up uc sb) (h9.le (szq_int sf' hK1) (by omega))) ?_
  rintro v _ D hU ⟨rfl, -, rfl⟩
  repeat (first | refine run_S ?_ | refine w_box (fun _ => ?_) | refine w_al (fun _ => ?_))
  refine st_dec rfl (fun h10 => ?_) (fun h10 => ?_)
  · have hgt : hi.floor < lo.floor + 1 := Rat.intCast_lt_intCast.1 (rcmp_gt.1 (by omega))
    have hk3 : hi ≤ (lo.floor : Rat) + 1 := by
      have : ((hi.floor + 1 : Int) : Rat) ≤ ((lo.floor + 1 : Int) : Rat) := Rat.intCast_le_intCast.2 (by omega)
      rw [Rat.intCast_add (a := lo.floor), Rat.intCast_one] at this
      grind
    rw [Rat.intCast_add, Rat.intCast_one] at f2
    repeat (first | refine run_S ?_ | refine w_box (fun _ => ?_) | refine w_al (fun _ => ?_))
    refine st_draw [0, 1, 2, 3, 4, 5, 6, 7, 8] sym (by kernel_rfl) ?_
    repeat (first | refine run_S ?_ | refine w_box (fun _ => ?_) | refine w_al (fun _ => ?_))
    refine sl_call rfl rfl rfl rfl rfl rfl (fun _ => qFloor_ct (h1.rep.up uc sb) (h1.le (sl) (by omega))) ?_
    rintro v Uh11 D hU ⟨xh11, rfl, h11, rfl⟩
    repeat (first | refine run_S ?_ | refine w_box (fun _ => ?_) | refine w_al (fun _ => ?_))
    refine sl_call rfl rfl rfl rfl rfl rfl (fun _ => (qWhole_ct (h11.rep.up uc sb) (h11.le (sf) (by omega))).settle) ?_
    rintro v Uh12 D hU ⟨rfl, _, _, ⟨xh12, rfl, h12, -⟩, -, -, hs⟩
    replace h12 := h12.sett hs
    clear hs
    repeat (first | refine run_S ?_ | refine w_box (fun _ => ?_) | refine w_al (fun _ => ?_))
    refine sl_call rfl rfl rfl rfl rfl rfl (fun _ => inside_ct (xl := xh1) (xh := xh2) (li := false) (hiI := true) (simplest_at (lo.den + hi.den)) (h1.rep.up uc sb) (h1.le sl (Nat.le_refl _)) (h2.rep.up uc sb) (h2.le sh (Nat.le_refl _)) hK1 hK (h12.rep.up uc sb) (h12.le (szq_int sf hK1) (Nat.le_refl _)) hlt f1 f2 hk3 rfl (fun _ => rfl) (by omega)) ?_
    rintro v U5 D hU ⟨r, q, rfl, hr, hopt, rfl⟩
    obtain ⟨hq0, o1, o2, o3, o4⟩ := opt_inside hlt f1 hk3 (fun _ => rfl) hopt
    have hin1 : lo < (lo.floor : Rat) + q⁻¹ := by
      rcases o1.1 with h | ⟨h, _⟩
      · exact h
      · cases h
    have hin2 : (lo.floor : Rat) + q⁻¹ ≤ hi := by
      rcases o1.2 with h | h | ⟨_, h⟩
      · cases h
      · grind
      · grind
    repeat (first | refine run_S ?_ | refine w_box (fun _ => ?_) | refine w_al (fun _ => ?_))
    refine sk_ret [] sym rfl (.cons (.cell 4 rfl rfl rfl) (.cons (.tmp rfl) .nil)) uc sb (.inl rfl) ⟨r, 0, rfl, fun h => absurd h hnle, fun _ => ⟨rfl, _, hr, hin1, hin2, fun y hy1 hy2 => ?_, fun _ y hy1 hy2 hy3 => ?_⟩, rfl⟩
    · have := (o4 y ⟨.inl hy1, by
        by_cases e : y = hi
        · exact .inr (.inr ⟨rfl, e⟩)
        · exact .inr (.inl (by grind))⟩).1
      omega
    · have := int_best hy1 hy2 hy3
      omega
  · have hle : lo.floor + 1 ≤ hi.floor := by
      by_cases h : hi.floor < lo.floor + 1
      · exact absurd (rcmp_gt.2 (Rat.intCast_lt_intCast.2 h)) h10
      · omega
    have hleR : ((lo.floor + 1 : Int) : Rat) ≤ (hi.floor : Rat) := Rat.intCast_le_intCast.2 hle
    repeat (first | refine run_S ?_ | refine w_box (fun _ => ?_) | refine w_al (fun _ => ?_))
    refine sl_call rfl rfl rfl rfl rfl rfl (fun _ => qSign_ct (h7.rep.up uc sb) (h7.le (szq_int sf2 (by omega)) (by omega))) ?_
    rintro v U' D hU ⟨rfl, rfl, rfl⟩
    repeat (first | refine run_S ?_ | refine w_box (fun _ => ?_) | refine w_al (fun _ => ?_))
    refine st_dec rfl (fun h11 => ?_) (fun h11 => ?_)
    · have hp : 0 < lo.floor + 1 := by
        rw [Rat.num_intCast] at h11
        rcases Int.lt_trichotomy (lo.floor + 1) 0 with h | h | h
        · rw [Int.sign_eq_neg_one_of_neg h] at h11; omega
        · rw [h] at h11; simp at h11
        · exact h
      repeat (first | refine run_S ?_ | refine w_box (fun _ => ?_) | refine w_al (fun _ => ?_))
      refine sk_ret [] sym rfl (.cons (.cell 4 rfl rfl rfl) (.cons (.tmp rfl) .nil)) uc sb (.inl rfl) ⟨xh7, 0, rfl, fun h => absurd h hnle, fun _ => ⟨rfl, _, h7.up uc sb, f2, by grind, fun y _ _ => by rw [Rat.den_intCast]; exact y.den_pos, fun _ y hy1 hy2 hy3 => ?_⟩, rfl⟩
      have := int_best hy1 hy2 hy3
      rw [Rat.num_intCast]
      omega
    · have hp : lo.floor + 1 ≤ 0 := by
        rw [Rat.num_intCast] at h11
        by_cases h : 0 < lo.floor + 1
        · rw [Int.sign_eq_one_of_pos h] at h11; omega
        · omega
      repeat (first | refine run_S ?_ | refine w_box (fun _ => ?_) | refine w_al (fun _ => ?_))
      refine sl_call rfl rfl rfl rfl rfl rfl (fun _ => qSign_ct (h9.rep.up uc sb) (h9.le (szq_int sf' hK1) (by omega))) ?_
      rintro v U' D hU ⟨rfl, rfl, rfl⟩
      repeat (first | refine run_S ?_ | refine w_box (fun _ => ?_) | refine w_al (fun _ => ?_))
      refine st_dec rfl (fun h12 => ?_) (fun h12 => ?_)
      · have hn : hi.floor < 0 := by
          rw [Rat.num_intCast] at h12
          by_cases h : hi.floor < 0
          · exact h
          · have := Int.sign_nonneg_iff.2 (Int.not_lt.1 h); omega
        repeat (first | refine run_S ?_ | refine w_box (fun _ => ?_) | refine w_al (fun _ => ?_))
        refine sk_ret [] sym rfl (.cons (.cell 4 rfl rfl rfl) (.cons (.tmp rfl) .nil)) uc sb (.inl rfl) ⟨xh9, 0, rfl, fun h => absurd h hnle, fun _ => ⟨rfl, _, h9.up uc sb, by grind, g1, fun y _ _ => by rw [Rat.den_intCast]; exact y.den_pos, fun _ y hy1 hy2 hy3 => ?_⟩, rfl⟩
        have := int_best hy1 hy2 hy3
        rw [Rat.num_intCast]
        omega
      · have hn : 0 ≤ hi.floor := by
          rw [Rat.num_intCast] at h12
          by_cases h : hi.floor < 0
          · rw [Int.sign_eq_neg_one_of_neg h] at h12; omega
          · omega
        have z1 : ((lo.floor + 1 : Int) : Rat) ≤ ((0 : Int) : Rat) := Rat.intCast_le_intCast.2 hp
        have z2 : ((0 : Int) : Rat) ≤ (hi.floor : Rat) := Rat.intCast_le_intCast.2 hn
        repeat (first | refine run_S ?_ | refine w_box (fun _ => ?_) | refine w_al (fun _ => ?_))
        refine sl_call rfl rfl rfl rfl rfl rfl (fun _ => (qOf_ct (z := 0) (by decide) (by decide)).settle) ?_
        rintro v Uh13 D hU ⟨rfl, _, _, ⟨xh13, rfl, h13, -⟩, -, -, hs⟩
        replace h13 := h13.sett hs
        clear hs
        repeat (first | refine run_S ?_ | refine w_box (fun _ => ?_) | refine w_al (fun _ => ?_))
        refine sk_ret [] sym rfl (.cons (.cell 4 rfl rfl rfl) (.cons (.tmp rfl) .nil)) uc sb (.inl rfl) ⟨xh13, 0, rfl, fun h => absurd h hnle, fun _ => ⟨rfl, _, h13, by grind, by grind, fun y _ _ => by rw [Rat.den_intCast]; exact y.den_pos, fun _ y hy1 hy2 hy3 => ?_⟩, rfl⟩
        rw [Rat.num_intCast]
        simp

end Go.Proofs.YtcndgdjelopmaaaGreat
