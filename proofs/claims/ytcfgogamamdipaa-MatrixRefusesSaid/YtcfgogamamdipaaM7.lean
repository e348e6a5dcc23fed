/- Texts of this seat's own, merged: each begins with its own remark. -/
import Derived.Test.YtcfgogamamdipaaM4
import Derived.Test.YtcfgogamamdipaaM5
import Derived.Test.YtcfgogamamdipaaM2
import Derived.Test.YtcfgogamamdipaaM3
import Derived.Test.YtcfgogamamdipaaM1
/- Walks: integers as machine integers; the reference's number of binary digits. -/
namespace Go.Proofs.Ytcfgogamamdipaa
open Go.Hp
variable {G : World} {U : UH} {M : MH}

/-- The machine integer that is equal to z, or 0; whether there is one. -/
def smv (z : Int) : Int := if -9223372036854775808 ≤ z ∧ z ≤ 9223372036854775807 then z else 0
def smb (z : Int) : Bool := decide (-9223372036854775808 ≤ z ∧ z ≤ 9223372036854775807)
theorem sm_in {z : Int} (h : -9223372036854775808 ≤ z ∧ z ≤ 9223372036854775807) : smv z = z ∧ smb z = true := by
  unfold smv smb
  rw [if_pos h]
  exact ⟨rfl, decide_eq_true h⟩
theorem sm_out {z : Int} (h : ¬ (-9223372036854775808 ≤ z ∧ z ≤ 9223372036854775807)) : smv z = 0 ∧ smb z = false := by
  unfold smv smb
  rw [if_neg h]
  exact ⟨rfl, decide_eq_false h⟩

theorem neg64 {n : Nat} (h : n ≤ 9223372036854775808) : IntKind.i64.wrap (IntKind.u64.wrap (0 - (n : Int))) = -(n : Int) := by
  rw [IntKind.wrap_u64]
  simp [IntKind.wrap, IntKind.bits, IntKind.signed]
  omega

theorem two_digits {l : List Nat} (h : Cn l) (hl : 2 < l.length) : 18446744073709551616 ≤ val l := by
  have h1 := h.ge (fun e => by subst e; simp at hl)
  have h2 : 4294967296 ^ 2 ≤ 4294967296 ^ (l.length - 1) := Nat.pow_le_pow_right (by decide) (by omega)
  omega

theorem blen_half {n : Nat} (h : n ≠ 0) : blen (n / 2) + 1 = blen n := by
  have h1 := blen_lt n
  have h2 := blen_le h
  have h3 := blen_pos h
  obtain ⟨k, hk⟩ : ∃ k, blen n = k + 1 := ⟨blen n - 1, by omega⟩
  rw [hk] at h1 h2 ⊢
  rw [Nat.add_sub_cancel] at h2
  congr 1
  rcases Nat.eq_zero_or_pos k with h0 | h0
  · subst h0
    rw [show n / 2 = 0 by omega]; rfl
  · obtain ⟨j, rfl⟩ : ∃ j, k = j + 1 := ⟨k - 1, by omega⟩
    refine blen_of ?_ ?_
    · rw [Nat.pow_succ] at h2; omega
    · rw [Nat.pow_succ] at h1; omega

end Go.Proofs.Ytcfgogamamdipaa

/- Walks of the reference of layer 1: words, shifts. -/
namespace Go.Proofs.Ytcfgogamamdipaa
open Go.Hp
variable {G : World} {U : UH} {M : MH}

theorem shr_arith (A V Bq P w d x y la : Nat) (h : V + Bq * P * la = Bq * A * w) (hx : y + 4294967296 * x = d * w + la) : V + Bq * P * y + Bq * (P * 4294967296) * x = Bq * (A + P * d) * w := by grind

end Go.Proofs.Ytcfgogamamdipaa

/- Walks of the reference of layer 1: division of digits, binary digit by binary digit. -/
namespace Go.Proofs.Ytcfgogamamdipaa
open Go.Hp
variable {G : World} {U : UH} {M : MH}

theorem val_set {l : List Nat} {i d x : Nat} (h : l[i]? = some d) : val (l.set i (d + x)) = val l + 4294967296 ^ i * x := by
  obtain ⟨hl, he⟩ := List.getElem?_eq_some_iff.1 h
  have h1 := val_split l i (by omega)
  rw [List.drop_eq_getElem_cons hl, he] at h1
  rw [List.set_eq_take_append_cons_drop, if_pos hl, val_append, List.length_take, Nat.min_eq_left (by omega), h1]
  simp only [val]
  grind

/-- A digit below which all are 0. -/
theorem digit_free {l : List Nat} {i d e : Nat} (hb : Bd l) (h : l[i]? = some d) (he : e < 32) (hd : 2 ^ (32 * i + e + 1) ∣ val l) : d + 2 ^ e < 4294967296 := by
  obtain ⟨hl, hx⟩ := List.getElem?_eq_some_iff.1 h
  have h1 := val_split l i (by omega)
  rw [List.drop_eq_getElem_cons hl, hx] at h1
  simp only [val] at h1
  have h2 := val_lt (bd_take hb i)
  rw [List.length_take, Nat.min_eq_left (by omega)] at h2
  have hdb := hb d (List.mem_of_getElem? h)
  have ep : 2 ^ (32 * i + e + 1) = 4294967296 ^ i * 2 ^ (e + 1) := by
    rw [Nat.add_assoc, Nat.pow_add, Nat.pow_mul]
  obtain ⟨q, hq⟩ := hd
  rw [ep] at hq
  have hB : 0 < 4294967296 ^ i := Nat.pow_pos (by decide)
  have h3 : val (l.take i) = 0 := by
    have h4 : 4294967296 ^ i ∣ val (l.take i) := by
      have h5 : 4294967296 ^ i ∣ val (l.take i) + 4294967296 ^ i * (d + 4294967296 * val (l.drop (i + 1))) := by
        rw [← h1, hq, Nat.mul_assoc]; exact Nat.dvd_mul_right ..
      exact (Nat.dvd_add_left (Nat.dvd_mul_right ..)).1 h5
    exact Nat.eq_zero_of_dvd_of_lt h4 h2
  rw [h3, Nat.zero_add, hq, Nat.mul_assoc] at h1
  have h6 := Nat.eq_of_mul_eq_mul_left hB h1
  have h7 : 2 ^ (e + 1) ∣ d := by
    have h8 : (4294967296 : Nat) = 2 ^ (e + 1) * 2 ^ (31 - e) := by
      rw [← Nat.pow_add, show e + 1 + (31 - e) = 32 by omega]
    have h9 : 2 ^ (e + 1) ∣ 4294967296 * val (l.drop (i + 1)) := by
      rw [h8, Nat.mul_assoc]; exact Nat.dvd_mul_right ..
    have h10 : 2 ^ (e + 1) ∣ d + 4294967296 * val (l.drop (i + 1)) := ⟨q, h6.symm⟩
    exact (Nat.dvd_add_left h9).1 h10
  obtain ⟨t, ht⟩ := h7
  have h8 : (4294967296 : Nat) = 2 ^ (e + 1) * 2 ^ (31 - e) := by
    rw [← Nat.pow_add, show e + 1 + (31 - e) = 32 by omega]
  have hP : 0 < 2 ^ (e + 1) := Nat.pow_pos (by decide)
  have h9 : t < 2 ^ (31 - e) := by
    rw [ht, h8] at hdb
    exact Nat.lt_of_mul_lt_mul_left hdb
  have h10 : 2 ^ (e + 1) * (t + 1) ≤ 2 ^ (e + 1) * 2 ^ (31 - e) := Nat.mul_le_mul_left _ h9
  rw [← h8, Nat.mul_add, ← ht, Nat.pow_succ] at h10
  have : 0 < 2 ^ e := Nat.pow_pos (by decide)
  omega

theorem bd_set {l : List Nat} {i d : Nat} (h : Bd l) (hd : d < 4294967296) : Bd (l.set i d) := fun y hy => by
  rcases List.mem_or_eq_of_mem_set hy with h1 | h1
  · exact h y h1
  · rw [h1]; exact hd

theorem bits_less {x y : Nat} (h : blen x < blen y) : x < y := by
  have h1 := blen_lt x
  have h2 := blen_le (n := y) (fun e => by subst e; rw [blen_zero] at h; omega)
  have h3 : 2 ^ blen x ≤ 2 ^ (blen y - 1) := Nat.pow_le_pow_right (by decide) (by omega)
  omega
theorem bits_diff {x y s : Nat} (hy : y ≠ 0) (h : blen x = blen y + s) : x < y * 2 ^ (s + 1) := by
  have h1 := blen_lt x
  have h2 := blen_le hy
  have h3 := blen_pos hy
  rw [h, show blen y + s = (blen y - 1) + (s + 1) by omega, Nat.pow_add] at h1
  exact Nat.lt_of_lt_of_le h1 (Nat.mul_le_mul_right _ h2)

theorem blen_val_le {l : List Nat} (hb : Bd l) : blen (val l) ≤ 32 * l.length := by
  refine blen_le_of ?_
  have := val_lt hb
  rw [Nat.pow_mul]
  exact this

/-- A list of digits: the call's own, or an argument as it came. -/
def OwnOr (D : MH) (q : Option Addr) (k cc : Nat) (lr : List Nat) (p : Option Addr) (n c : Nat) (a : List Nat) : Prop :=
  Own D q k cc lr ∨ (D = [] ∧ q = p ∧ k = n ∧ cc = c ∧ lr = a)
theorem OwnOr.dig {D X : MH} {q p : Option Addr} {k cc n c : Nat} {lr a : List Nat} (h : OwnOr D q k cc lr p n c a) (ha : Dig U M p n c a) (hX : M.Sublist X) : Dig U (D ++ X) q k cc lr := by
  rcases h with h | ⟨rfl, rfl, rfl, rfl, rfl⟩
  · exact h.dig
  · exact ha.up (ULe.refl _) hX

end Go.Proofs.Ytcfgogamamdipaa

/- Walks of the reference of layer 1: Euclid's division of integers. -/
namespace Go.Proofs.Ytcfgogamamdipaa
open Go.Hp
variable {G : World} {U : UH} {M : MH}

theorem IV.own.form {x : IV} {D : MH} {z : Int} (h : x.own D z) : ∃ l, Own D x.p x.n x.c l ∧ Cn l ∧ val l = z.natAbs ∧ z = sg x.neg (val l) := by
  obtain ⟨l, o, c, v, s⟩ := h
  refine ⟨l, o, c, v, ?_⟩
  rw [v, s]; unfold sg; by_cases h : z < 0 <;> simp [h] <;> omega

end Go.Proofs.Ytcfgogamamdipaa
