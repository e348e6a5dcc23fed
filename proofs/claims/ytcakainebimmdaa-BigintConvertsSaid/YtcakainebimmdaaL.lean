/- Lengths in binary digits. No program; no condition. -/
import Derived.Test.YtcakainebimmdaaHx
import Derived.Test.YtcakainebimmdaaN
namespace Go.Hp

/-- The number of binary digits. -/
def blen (n : Nat) : Nat := if n = 0 then 0 else Nat.log2 n + 1

theorem blen_lt (n : Nat) : n < 2 ^ blen n := by
  unfold blen
  split
  · rename_i h; subst h; decide
  · exact Nat.lt_log2_self
theorem blen_le {n : Nat} (h : n ≠ 0) : 2 ^ (blen n - 1) ≤ n := by
  unfold blen
  rw [if_neg h, Nat.add_sub_cancel]
  exact Nat.log2_self_le h
theorem blen_zero : blen 0 = 0 := rfl
theorem blen_pos {n : Nat} (h : n ≠ 0) : 0 < blen n := by
  unfold blen; rw [if_neg h]; omega
theorem blen_of {n k : Nat} (h1 : 2 ^ k ≤ n) (h2 : n < 2 ^ (k + 1)) : blen n = k + 1 := by
  have h0 : n ≠ 0 := by
    have := Nat.two_pow_pos k
    omega
  have a := blen_lt n
  have b := blen_le h0
  have c := blen_pos h0
  rcases Nat.lt_trichotomy (blen n) (k + 1) with h | h | h
  · exfalso
    have : 2 ^ blen n ≤ 2 ^ k := Nat.pow_le_pow_right (by omega) (by omega)
    omega
  · exact h
  · exfalso
    have : 2 ^ (k + 1) ≤ 2 ^ (blen n - 1) := Nat.pow_le_pow_right (by omega) (by omega)
    omega
theorem blen_shift {n s : Nat} (h : 2 ^ s ≤ n) : blen (n / 2 ^ s) + s = blen n := by
  have hp := Nat.two_pow_pos s
  have h0 : n / 2 ^ s ≠ 0 := by
    have := Nat.div_pos h hp
    omega
  have a := blen_lt (n / 2 ^ s)
  have b := blen_le h0
  have c := blen_pos h0
  obtain ⟨k, hk⟩ : ∃ k, blen (n / 2 ^ s) = k + 1 := ⟨blen (n / 2 ^ s) - 1, by omega⟩
  rw [hk] at a b ⊢
  rw [Nat.add_sub_cancel] at b
  have h1 : 2 ^ (k + s) ≤ n := by
    rw [Nat.pow_add]
    exact Nat.le_trans (Nat.mul_le_mul_right _ b) (Nat.div_mul_le_self n _)
  have h2 : n < 2 ^ (k + s + 1) := by
    have := Nat.lt_mul_of_div_lt a hp
    rw [← Nat.pow_add] at this
    rwa [show k + s + 1 = k + 1 + s by omega]
  rw [blen_of h1 h2]; omega
theorem blen_le_of {n k : Nat} (h : n < 2 ^ k) : blen n ≤ k := by
  rcases Nat.lt_or_ge k (blen n) with h1 | h1
  · exfalso
    have h0 : n ≠ 0 := by intro e; subst e; rw [blen_zero] at h1; omega
    have b := blen_le h0
    have : 2 ^ k ≤ 2 ^ (blen n - 1) := Nat.pow_le_pow_right (by omega) (by omega)
    omega
  · exact h1

/-- A table of the lengths of the numbers below 256. -/
def okTab (s : ByteArray) : Bool := (List.range 256).all fun j => (s[j]?).map (·.toNat) == some (blen j)
theorem okTab_get {s : ByteArray} (h : okTab s = true) {j : Nat} (hj : j < 256) : ∃ b, s[j]? = some b ∧ b.toNat = blen j := by
  have := List.all_eq_true.1 h j (List.mem_range.2 hj)
  simp only [beq_iff_eq] at this
  cases hb : s[j]? with
  | none => rw [hb] at this; cases this
  | some b => rw [hb] at this; exact ⟨b, rfl, by simpa using this⟩

variable {P : Program} {T : TT} {K : Kont} {N : Nat} {G : World} {E : Env} {U : UH} {M : MH} {L : List Oper} {l : List Ent} {f : Bool} {i : Nat} {o : Oper}

/-- A byte of a string. -/
theorem yl_byte {t : Nat} {x ix : Operand} {s : ByteArray} {iv : Int} {j : Nat} {k : IntKind} {b : UInt8} {sz bt : Nat} {z : Value} (hS : Sym P T) (ho : o.op = .index t x ix) (hx : ev E x = some (.string s)) (hi : ev E ix = some (.int k iv))
    (hT : lkT T t = some ⟨.str, sz, bt, z⟩) (hj : iv = (j : Int)) (hb : s[j]? = some b) : Yl P N G o E U M (.int .u8 ((b.toNat : Nat) : Int)) := by
  refine ⟨fun a w ha hw => ?_⟩
  obtain ⟨d, hd, hk⟩ := (hS.at hT).und
  have := kindOf_str hk
  subst this hj
  have h1 : (0 : Int) ≤ (j : Int) := by omega
  simp [execOp, ho, ha.eval hx, ha.eval hi, Instr.index, asIntOf, run_underlying' hd, h1, hb]

theorem yl_tab {t : Nat} {x ix : Operand} {s : ByteArray} {iv : Int} {j : Nat} {k : IntKind} {sz bt : Nat} {z : Value} (hS : Sym P T) (ho : o.op = .index t x ix) (hx : ev E x = some (.string s)) (hs : okTab s = true) (hi : ev E ix = some (.int k iv))
    (hT : lkT T t = some ⟨.str, sz, bt, z⟩) (hj : iv = (j : Int)) (hlt : j < 256) : Yl P N G o E U M (.int .u8 ((blen j : Nat) : Int)) := by
  obtain ⟨b, h1, h2⟩ := okTab_get hs hlt
  have := yl_byte (N := N) (G := G) (U := U) (M := M) hS ho hx hi hT hj h1
  rwa [h2] at this

end Go.Hp
