/- Texts of this seat's own, merged: each begins with its own remark. -/
import Derived.Test.YtcfgogamamdipaaM18
import Derived.Test.YtcfgogamamdipaaM14
/- Simplest fractions: the plain law. -/
namespace Go.Proofs.Ytcfgogamamdipaa
open Go.Hp

theorem rat_num_pos {q : Rat} : 0 < q.num ↔ 0 < q := by
  have h1 := Rat.num_nonneg (q := q)
  have h2 := Rat.num_eq_zero (q := q)
  constructor
  · intro h
    have : 0 ≤ q := h1.1 (by omega)
    have : q ≠ 0 := fun e => by have := h2.2 e; omega
    grind
  · intro h
    have : 0 ≤ q.num := h1.2 (by grind)
    have : q.num ≠ 0 := fun e => by have := h2.1 e; grind
    omega
theorem rcmp_eq {p q : Rat} : (p - q).num.sign = 0 ↔ p = q := by
  rw [Int.sign_eq_zero_iff_zero, Rat.num_eq_zero]
  constructor <;> intro h <;> grind
theorem rcmp_gt {p q : Rat} : 0 < (p - q).num.sign ↔ q < p := by
  rw [show (0 : Int) < (p - q).num.sign ↔ 0 < (p - q).num by
    rcases Int.lt_trichotomy (p - q).num 0 with h | h | h
    · rw [Int.sign_eq_neg_one_of_neg h]; omega
    · rw [h]; simp
    · rw [Int.sign_eq_one_of_pos h]; omega, rat_num_pos]
  constructor <;> intro h <;> grind
theorem rcmp_lt {p q : Rat} : (p - q).num.sign < 0 ↔ p < q := by
  have h1 := rcmp_gt (p := p) (q := q)
  have h2 := rcmp_eq (p := p) (q := q)
  constructor
  · intro h
    have : ¬ q < p := fun e => by have := h1.2 e; omega
    have : p ≠ q := fun e => by have := h2.2 e; omega
    grind
  · intro h
    have : ¬ 0 < (p - q).num.sign := fun e => by have := h1.1 e; grind
    have : ¬ (p - q).num.sign = 0 := fun e => by have := h2.1 e; grind
    omega
theorem rat_add_int (q : Rat) (k : Int) : (q + (k : Rat)).num = q.num + k * q.den ∧ (q + (k : Rat)).den = q.den := by
  have h := over_pos (n := q.num + k * q.den) (d := (q.den : Int)) (rat_den_pos q)
  have e : q + (k : Rat) = Rat.divInt (q.num + k * q.den) (q.den : Int) := by
    rw [rat_add]; simp
  have g : Int.gcd (q.num + k * q.den) (q.den : Int) = 1 := by
    rw [Int.gcd_add_mul_right_left]
    exact q.reduced
  rw [e, h.1]
  have h2 := h.2
  rw [g] at h2 ⊢
  simp at h2 ⊢
  omega
theorem rat_inv_pos {q : Rat} (h : 0 < q) : (q⁻¹).num = (q.den : Int) ∧ ((q⁻¹).den : Int) = q.num := by
  have h1 := rat_num_pos.2 h
  rw [Rat.num_inv, Rat.den_inv, if_neg (by omega), Int.sign_eq_one_of_pos h1]
  omega
theorem inv_lt {p q : Rat} (hp : 0 < p) (h : p < q) : q⁻¹ < p⁻¹ := by
  have hq : 0 < q := by grind
  obtain ⟨a1, a2⟩ := rat_inv_pos hp
  obtain ⟨b1, b2⟩ := rat_inv_pos hq
  rw [Rat.lt_iff] at h ⊢
  rw [a1, b1, a2, b2, Int.mul_comm, Int.mul_comm (p.den : Int)]
  exact h
theorem inv_pos {p : Rat} (hp : 0 < p) : 0 < p⁻¹ := Rat.inv_pos.2 hp
theorem one_div (x : Rat) : 1 / x = x⁻¹ := by grind

/-- y lies between lo and hi; the ends belong or not, and there may be no upper end. -/
def InS (lo hi : Rat) (li hiI e : Bool) (y : Rat) : Prop := (lo < y ∨ (li = true ∧ lo = y)) ∧ (e = true ∨ y < hi ∨ (hiI = true ∧ y = hi))
def Opt (lo hi : Rat) (li hiI e : Bool) (r : Rat) : Prop := InS lo hi li hiI e r ∧ ∀ y, InS lo hi li hiI e y → r.num ≤ y.num ∧ r.den ≤ y.den

theorem rat_eq_num {y : Rat} (h : y.den = 1) : y = (y.num : Rat) := Rat.ext rfl (by rw [h]; rfl)
theorem rat_num_eq (y : Rat) : (y.num : Rat) = y * (y.den : Rat) := by
  have h := rat_self y
  have hd : (y.den : Rat) ≠ 0 := by
    intro e
    have := Rat.natCast_eq_zero_iff.1 e
    exact y.den_nz this
  have h2 : y * ((y.den : Int) : Rat) = (y.num : Rat) := by
    refine Rat.ext ?_ ?_
    · rw [Rat.num_mul]; simp
      have := y.reduced
      rw [Int.natAbs_mul, Int.natAbs_natCast]
      rw [Nat.gcd_mul_left_left]
      rw [Int.mul_ediv_cancel]
      have := y.den_nz
      omega
    · rw [Rat.den_mul]; simp
      rw [Int.natAbs_mul, Int.natAbs_natCast, Nat.gcd_mul_left_left]
      exact Nat.div_self y.den_pos
  exact h2.symm

theorem opt_first {lo hi : Rat} {li hiI e : Bool} {f : Int} (h1 : 1 ≤ lo) (hin : InS lo hi li hiI e f) (hf : ∀ n : Int, (lo < n ∨ (li = true ∧ lo = n)) → f ≤ n) (hf2 : (f : Rat) ≤ lo + 1) : Opt lo hi li hiI e f := by
  refine ⟨hin, fun y hy => ?_⟩
  have hd := y.den_pos
  refine ⟨?_, ?_⟩
  · rw [Rat.num_intCast]
    by_cases h : y.den = 1
    · have e := rat_eq_num h
      refine hf _ ?_
      rw [← e]; exact hy.1
    · have h2 : (2 : Rat) ≤ (y.den : Rat) := by
        have : ((2 : Nat) : Rat) ≤ (y.den : Rat) := Rat.natCast_le_natCast.2 (by omega)
        exact this
      have h3 : lo ≤ y := by rcases hy.1 with h | h <;> grind
      have h4 := rat_num_eq y
      have h5 : y * 2 ≤ y * (y.den : Rat) := Rat.mul_le_mul_of_nonneg_left h2 (by grind)
      have h6 : (f : Rat) ≤ (y.num : Rat) := by grind
      exact Rat.intCast_le_intCast.1 h6
  · rw [Rat.den_intCast]; omega

theorem opt_inside {lo hi : Rat} {k : Int} {li hiI : Bool} {r : Rat} (h1 : lo < hi) (hk : (k : Rat) ≤ lo) (_hk2 : hi ≤ k + 1) (hlk : lo = k → li = false)
    (hr : Opt ((hi - k)⁻¹) ((lo - k)⁻¹) hiI li (decide (lo = k)) r) :
    0 < r ∧ InS lo hi li hiI false (k + r⁻¹) ∧ ((k + r⁻¹ : Rat).den : Int) = r.num ∧ (k + r⁻¹ : Rat).num = r.den + k * r.num ∧ ∀ y, InS lo hi li hiI false y → r.num ≤ y.den ∧ (0 ≤ k → r.den + k * r.num ≤ y.num) := by
  obtain ⟨⟨ha, hb⟩, hopt⟩ := hr
  have hpos : 0 < (hi - k)⁻¹ := inv_pos (by grind)
  have hr0 : 0 < r := by rcases ha with h | h <;> grind
  have hri := inv_pos hr0
  obtain ⟨i1, i2⟩ := rat_inv_pos hr0
  obtain ⟨j1, j2⟩ := rat_add_int r⁻¹ k
  rw [Rat.add_comm] at j1 j2
  refine ⟨hr0, ⟨?_, .inr ?_⟩, ?_, ?_, fun y hy => ?_⟩
  · rcases hb with h | h | ⟨h, h'⟩
    · have := of_decide_eq_true h
      left; grind
    · left
      by_cases e : lo = k
      · grind
      · have := inv_lt hr0 h
        rw [Rat.inv_inv] at this
        grind
    · by_cases e : lo = k
      · left; grind
      · right
        refine ⟨h, ?_⟩
        rw [h', Rat.inv_inv]; grind
  · rcases ha with h | ⟨h, h'⟩
    · left
      have := inv_lt hpos h
      rw [Rat.inv_inv] at this
      grind
    · right
      refine ⟨h, ?_⟩
      rw [← h', Rat.inv_inv]; grind
  · rw [j2]; exact i2
  · rw [j1, i1, i2]
  · have hy0 : 0 < y - k := by
      rcases hy.1 with h | ⟨h, h'⟩
      · grind
      · have : lo ≠ k := fun e => by rw [hlk e] at h; cases h
        grind
    have hin : InS ((hi - k)⁻¹) ((lo - k)⁻¹) hiI li (decide (lo = k)) (y - k)⁻¹ := by
      refine ⟨?_, ?_⟩
      · rcases hy.2 with h | h | ⟨h, h'⟩
        · cases h
        · left; exact inv_lt hy0 (by grind)
        · right; exact ⟨h, by rw [h']⟩
      · by_cases e : lo = k
        · left; exact decide_eq_true e
        · right
          rcases hy.1 with h | ⟨h, h'⟩
          · left; exact inv_lt (by grind) (by grind)
          · right; exact ⟨h, by rw [h']⟩
    obtain ⟨o1, o2⟩ := hopt _ hin
    obtain ⟨c1, c2⟩ := rat_inv_pos hy0
    obtain ⟨d1, d2⟩ := rat_add_int y (-k)
    have e : y + ((-k : Int) : Rat) = y - k := by grind
    rw [e] at d1 d2
    rw [c1, d2] at o1
    have o2' : (r.den : Int) ≤ (((y - k)⁻¹).den : Int) := by omega
    rw [c2, d1] at o2'
    refine ⟨o1, fun hk0 => ?_⟩
    have h3 : k * r.num ≤ k * (y.den : Int) := Int.mul_le_mul_of_nonneg_left o1 hk0
    rw [Int.neg_mul] at o2'
    omega

/-- The numbers of the next round: they are no longer. -/
theorem szq_back {hi : Rat} {k : Int} {K : Nat} (h : Szq hi K) (h0 : 0 < hi - k) (h1 : hi - k ≤ 1) : Szq ((hi - k)⁻¹) K ∧ ((hi - k)⁻¹).den ≤ hi.den ∧ (hi - k < 1 → ((hi - k)⁻¹).den < hi.den) := by
  obtain ⟨c1, c2⟩ := rat_inv_pos h0
  obtain ⟨d1, d2⟩ := rat_add_int hi (-k)
  have e : hi + ((-k : Int) : Rat) = hi - k := by grind
  rw [e] at d1 d2
  have hn := rat_num_eq (hi - k)
  rw [d2] at hn
  have hd : (0 : Rat) < (hi.den : Rat) := Rat.natCast_pos.2 hi.den_pos
  have hle : (hi - k).num ≤ (hi.den : Int) := by
    have h3 : (hi - k) * (hi.den : Rat) ≤ 1 * (hi.den : Rat) := Rat.mul_le_mul_of_nonneg_right h1 (by grind)
    rw [← hn, Rat.one_mul] at h3
    exact Rat.intCast_le_intCast.1 h3
  have hp := rat_num_pos.2 h0
  refine ⟨⟨?_, ?_⟩, by omega, fun hlt => ?_⟩
  · rw [c1, d2]; exact h.2
  · rw [c2]
    have := h.2
    unfold Sz at *
    omega
  · have h3 : (hi - k) * (hi.den : Rat) < 1 * (hi.den : Rat) := Rat.mul_lt_mul_of_pos_right hlt hd
    rw [← hn, Rat.one_mul] at h3
    have : (hi - k).num < (hi.den : Int) := Rat.intCast_lt_intCast.1 h3
    omega

theorem opt_sz {lo hi : Rat} {li hiI e : Bool} {r : Rat} {K : Nat} (h : Opt lo hi li hiI e r) (h0 : 0 < r) {y : Rat} (hy : InS lo hi li hiI e y) (hs : Szq y K) : Szq r K := by
  obtain ⟨a, b⟩ := h.2 y hy
  have := rat_num_pos.2 h0
  obtain ⟨s1, s2⟩ := hs
  unfold Szq Sz at *
  omega

/-! ### intervals -/
/-- r is the simplest of the numbers above lo up to hi. -/
def Best (lo hi r : Rat) : Prop := lo < r ∧ r ≤ hi ∧ (∀ y, lo < y → y ≤ hi → r.den ≤ y.den) ∧ (r.den = 1 → ∀ y, lo < y → y ≤ hi → y.den = 1 → r.num.natAbs ≤ y.num.natAbs)

theorem Best.sz {lo hi r : Rat} {K : Nat} (h : Best lo hi r) (h1 : Szq lo K) (h2 : Szq hi K) : Szq r (K + K) := by
  obtain ⟨a, b, c, -⟩ := h
  have hd := c hi (by grind) (by grind)
  have hnum : ∀ q : Rat, Szq q K → q ≤ ((4294967296 ^ K : Nat) : Rat) ∧ -((4294967296 ^ K : Nat) : Rat) ≤ q := by
    intro q hq
    have h3 := rat_num_eq q
    have h4 : (1 : Rat) ≤ (q.den : Rat) := by
      have : ((1 : Nat) : Rat) ≤ (q.den : Rat) := Rat.natCast_le_natCast.2 q.den_pos
      exact this
    have h5 : -((4294967296 ^ K : Nat) : Int) ≤ q.num ∧ q.num ≤ ((4294967296 ^ K : Nat) : Int) := by
      have := hq.1
      unfold Sz at this
      omega
    have h6 : ((-((4294967296 ^ K : Nat) : Int) : Int) : Rat) ≤ (q.num : Rat) := Rat.intCast_le_intCast.2 h5.1
    have h7 : (q.num : Rat) ≤ ((((4294967296 ^ K : Nat) : Int) : Int) : Rat) := Rat.intCast_le_intCast.2 h5.2
    rw [Rat.intCast_neg, Rat.intCast_natCast] at h6
    rw [Rat.intCast_natCast] at h7
    by_cases h0 : 0 ≤ q
    · have : q * 1 ≤ q * (q.den : Rat) := Rat.mul_le_mul_of_nonneg_left h4 h0
      have h9 : (0 : Rat) ≤ ((4294967296 ^ K : Nat) : Rat) := Rat.natCast_nonneg
      constructor <;> grind
    · have : (-q) * 1 ≤ (-q) * (q.den : Rat) := Rat.mul_le_mul_of_nonneg_left h4 (by grind)
      have h9 : (0 : Rat) ≤ ((4294967296 ^ K : Nat) : Rat) := Rat.natCast_nonneg
      constructor <;> grind
  have hh := hnum hi h2
  have hl := hnum lo h1
  have hrd : r.den < 4294967296 ^ K := by
    have := h2.2
    unfold Sz at this
    omega
  have h3 := rat_num_eq r
  have hd0 : (0 : Rat) ≤ (r.den : Rat) := Rat.natCast_nonneg
  have u1 : r * (r.den : Rat) ≤ ((4294967296 ^ K : Nat) : Rat) * (r.den : Rat) := Rat.mul_le_mul_of_nonneg_right (by grind) hd0
  have u2 : (-((4294967296 ^ K : Nat) : Rat)) * (r.den : Rat) ≤ r * (r.den : Rat) := Rat.mul_le_mul_of_nonneg_right (by grind) hd0
  rw [← h3] at u1 u2
  have e1 : ((4294967296 ^ K : Nat) : Rat) * (r.den : Rat) = (((4294967296 ^ K * r.den : Nat) : Int) : Rat) := by
    rw [Rat.intCast_natCast, Rat.natCast_mul]
  rw [Rat.neg_mul] at u2
  rw [e1] at u1 u2
  rw [← Rat.intCast_neg] at u2
  have v1 := Rat.intCast_le_intCast.1 u1
  have v2 := Rat.intCast_le_intCast.1 u2
  have hlt : 4294967296 ^ K * r.den < 4294967296 ^ K * 4294967296 ^ K := Nat.mul_lt_mul_of_pos_left hrd (Nat.pow_pos (by decide))
  rw [← Nat.pow_add] at hlt
  refine ⟨?_, ?_⟩
  · unfold Sz; omega
  · unfold Sz
    have : 4294967296 ^ K ≤ 4294967296 ^ (K + K) := Nat.pow_le_pow_right (by decide) (by omega)
    omega

end Go.Proofs.Ytcfgogamamdipaa

/- Walks of rational: simplest fractions. -/
namespace Go.Proofs.Ytcfgogamamdipaa
open Go.Hp
variable {G : World} {U : UH} {M : MH}

/-- A span as the program's struct. -/
def sval (lo hi : QV) (li hiI e : Bool) : Value := .agg #[.bool lo.num.neg, .slice lo.num.p lo.num.n lo.num.c, .bool lo.den.neg, .slice lo.den.p lo.den.n lo.den.c, .bool hi.num.neg, .slice hi.num.p hi.num.n hi.num.c, .bool hi.den.neg, .slice hi.den.p hi.den.n hi.den.c, .bool li, .bool hiI, .bool e]
def smu (lo hi : Rat) (e : Bool) : Nat := if e = true then 0 else lo.den + hi.den

theorem zeroQV_rep : zeroQV.rep U M 0 := ⟨0, 0, ⟨[], Dig.nil, rfl⟩, ⟨[], Dig.nil, rfl⟩, by simp⟩

theorem szq_int {z : Int} {k : Nat} (h : Sz z k) (hk : 1 ≤ k) : Szq (z : Rat) k := ⟨h, sz_one hk⟩

end Go.Proofs.Ytcfgogamamdipaa

/- Walks of rational: simplest fractions, second part. -/
namespace Go.Proofs.Ytcfgogamamdipaa
open Go.Hp
variable {G : World} {U : UH} {M : MH}

/-- An interval as the program's struct. -/
def inval (lo hi : QV) : Value := .agg #[.bool lo.num.neg, .slice lo.num.p lo.num.n lo.num.c, .bool lo.den.neg, .slice lo.den.p lo.den.n lo.den.c, .bool hi.num.neg, .slice hi.num.p hi.num.n hi.num.c, .bool hi.den.neg, .slice hi.den.p hi.den.n hi.den.c]

theorem int_best {lo hi y : Rat} (h1 : lo < y) (h2 : y ≤ hi) (h3 : y.den = 1) : lo.floor + 1 ≤ y.num ∧ y.num ≤ hi.floor := by
  have e := rat_eq_num h3
  have f1 := Rat.floor_le lo
  constructor
  · have : (lo.floor : Rat) < (y.num : Rat) := by grind
    have := Rat.intCast_lt_intCast.1 this
    omega
  · exact Rat.le_floor_iff.2 (by rw [← e]; exact h2)

end Go.Proofs.Ytcfgogamamdipaa
