/- Texts of this seat's own, merged: each begins with its own remark. -/
import Derived.Test.YtcfgogamamdipaaM7
import Derived.Test.YtcfgogamamdipaaM5
import Derived.Test.YtcfgogamamdipaaM4
/- Walks: powers of integers. -/
namespace Go.Proofs.Ytcfgogamamdipaa
open Go.Hp
variable {G : World} {U : UH} {M : MH}

/-- The lowest binary digit. -/
theorem yl_and1 {P : Program} {N : Nat} {E : Env} {o : Oper} {ty yt : Nat} {x y : Operand} {k : IntKind} {a : Int} {m : Nat} (ho : o.op = .binOp .and ty x y yt) (hx : ev E x = some (.int k a)) (hy : ev E y = some (.int k 1)) (ha : a = (m : Int)) (hm : (m : Int) ≤ kmax k) :
    Yl P N G o E U M (.int k ((m % 2 : Nat) : Int)) := by
  refine yl_bin ho hx hy (funext fun w => ?_)
  subst ha
  have h1 : (BitVec.ofInt k.bits (m : Int) &&& BitVec.ofInt k.bits 1).toNat = m % 2 := by
    have e1 : BitVec.ofInt k.bits (m : Int) = BitVec.ofNat k.bits m := BitVec.ofInt_natCast ..
    have e2 : BitVec.ofInt k.bits 1 = BitVec.ofNat k.bits 1 := BitVec.ofInt_natCast k.bits 1
    rw [e1, e2, BitVec.toNat_and, BitVec.toNat_ofNat, BitVec.toNat_ofNat]
    cases k <;> simp only [IntKind.bits] <;> simp only [kmax] at hm
    all_goals
      rw [Nat.mod_eq_of_lt (by omega), Nat.mod_eq_of_lt (by decide), Nat.and_one_is_mod]
  simp only [binOp, ne_eq, not_true_eq_false, if_false, Op.intBits]
  show Result.ok (Value.int k (k.wrap (((BitVec.ofInt k.bits (m : Int) &&& BitVec.ofInt k.bits 1).toNat : Nat) : Int))) w = _
  rw [h1, wrap_in (by omega) (by cases k <;> simp only [kmax] <;> omega)]

theorem sz_pow {z : Int} {b j n K : Nat} (hb : blen z.natAbs = b) (hj : j ≤ n) (h : b * n ≤ 32 * K) : Sz (z ^ j) (K + 1) := by
  unfold Sz
  have h1 := blen_lt z.natAbs
  rw [hb] at h1
  rw [Int.natAbs_pow]
  have h2 : z.natAbs ^ j ≤ (2 ^ b) ^ j := Nat.pow_le_pow_left (Nat.le_of_lt h1) j
  rw [← Nat.pow_mul] at h2
  have h3 : b * j ≤ b * n := Nat.mul_le_mul_left _ hj
  have h4 : 2 ^ (b * j) < 2 ^ (32 * (K + 1)) := Nat.pow_lt_pow_right (by decide) (by omega)
  have h5 : (4294967296 : Nat) ^ (K + 1) = 2 ^ (32 * (K + 1)) := by
    rw [Nat.pow_mul]
  omega

theorem pow_short {z : Int} (hz : blen z.natAbs ≤ 1) : ∀ n : Nat, 2 ≤ n → z ^ n = z ^ (2 + n % 2) := by
  have h1 := blen_lt z.natAbs
  have h2 : z.natAbs < 2 := Nat.lt_of_lt_of_le h1 (Nat.pow_le_pow_right (n := 2) (by decide) hz)
  have h3 : z = 0 ∨ z = 1 ∨ z = -1 := by omega
  have h4 : ∀ k : Nat, z ^ (k + 1 + 2) = z ^ (k + 1) := by
    intro k
    have e : z ^ 2 * z = z := by rcases h3 with rfl | rfl | rfl <;> decide
    rw [Int.pow_add, Int.pow_succ, Int.mul_assoc, Int.mul_comm z, e]
  intro n
  induction n using Nat.strongRecOn with
  | ind n ih =>
    intro hn
    by_cases h5 : n ≤ 3
    · rcases (show n = 2 ∨ n = 3 by omega) with rfl | rfl <;> rfl
    · have e1 := ih (n - 2) (by omega) (by omega)
      have e2 := h4 (n - 3)
      rw [show n - 3 + 1 + 2 = n by omega, show n - 3 + 1 = n - 2 by omega] at e2
      rw [e2, e1, show (n - 2) % 2 = n % 2 by omega]

end Go.Proofs.Ytcfgogamamdipaa

/- Walks of the reference of layer 1: powers. -/
namespace Go.Proofs.Ytcfgogamamdipaa
open Go.Hp
variable {G : World} {U : UH} {M : MH}

end Go.Proofs.Ytcfgogamamdipaa

/- Walks: powers modulo an integer. -/
namespace Go.Proofs.Ytcfgogamamdipaa
open Go.Hp
variable {G : World} {U : UH} {M : MH}

theorem bit_of (V A P d R e : Nat) (h : V = A + P * (d + 4294967296 * R)) (hA : A < P) (he : e < 32) : d / 2 ^ e % 2 = V / (P * 2 ^ e) % 2 := by
  have h1 : V / P = d + 4294967296 * R := by
    rw [h, Nat.add_mul_div_left _ _ (by omega), Nat.div_eq_of_lt hA, Nat.zero_add]
  rw [← Nat.div_div_eq_div_mul, h1]
  have h2 : (4294967296 : Nat) = 2 ^ e * (2 * 2 ^ (31 - e)) := by
    rw [← Nat.pow_succ', ← Nat.pow_add, show e + (31 - e + 1) = 32 by omega]
  rw [h2, Nat.mul_assoc, Nat.add_mul_div_left _ _ (Nat.pow_pos (by decide)), Nat.mul_assoc]
  omega

theorem digit_bit {l : List Nat} (hb : Bd l) {i d : Nat} (h : l[i / 32]? = some d) : d / 2 ^ (i % 32) % 2 = val l / 2 ^ i % 2 := by
  obtain ⟨hl, hx⟩ := List.getElem?_eq_some_iff.1 h
  have h1 := val_split l (i / 32) (by omega)
  rw [List.drop_eq_getElem_cons hl, hx] at h1
  simp only [val] at h1
  have h2 := val_lt (bd_take hb (i / 32))
  rw [List.length_take, Nat.min_eq_left (by omega)] at h2
  have hi : 2 ^ i = 4294967296 ^ (i / 32) * 2 ^ (i % 32) := by
    rw [show (4294967296 : Nat) = 2 ^ 32 by decide, ← Nat.pow_mul, ← Nat.pow_add, Nat.div_add_mod]
  rw [hi]
  exact bit_of _ _ _ _ _ _ h1 h2 (Nat.mod_lt _ (by decide))

/-- A number's binary digits lie within its digits. -/
theorem bit_in {l : List Nat} (hb : Bd l) {i : Nat} (h : i < blen (val l)) : i / 32 < l.length := by
  have := blen_val_le hb
  omega

theorem sz_mod {z u : Int} {k : Nat} (h : Sz u k) (hu : u ≠ 0) : Sz (z % u) k := by
  unfold Sz at *
  have h1 := Int.emod_nonneg z hu
  have h2 := Int.emod_lt z hu
  omega

end Go.Proofs.Ytcfgogamamdipaa

/- Walks of the reference of layer 1: powers modulo an integer. -/
namespace Go.Proofs.Ytcfgogamamdipaa
open Go.Hp
variable {G : World} {U : UH} {M : MH}

end Go.Proofs.Ytcfgogamamdipaa
