/- Sizes of integers; what a call has handed over, read in the memory that follows. -/
import Derived.Test.YtcakainebimmdaaD
import Derived.Test.YtcakainebimmdaaW
namespace Go.Proofs.Ytcakainebimmdaa
open Go.Hp
variable {G : World} {U : UH} {M : MH}

theorem IV.own.at {x : IV} {D M : MH} {z : Int} (h : x.own D z) {U : UH} (hs : D.Sublist M) : x.nrm U M z :=
  (h.nrm (U := U) (M := [])).up (ULe.refl _) (by rwa [List.append_nil])

/-- A normalized integer has no more digits than any that stands for it. -/
theorem IV.nrm.len_le {x : IV} {U : UH} {M : MH} {z : Int} (h : x.nrm U M z) {k : Nat} (hz : z.natAbs < 4294967296 ^ k) : x.n ≤ k := by
  obtain ⟨l, h1, h2, h3, _⟩ := h
  rw [← h1.len]
  by_cases hl : l = []
  · subst hl; exact Nat.zero_le _
  · have := h2.ge hl
    rw [h3] at this
    have h5 : 4294967296 ^ (l.length - 1) < 4294967296 ^ k := by omega
    have := (Nat.pow_lt_pow_iff_right (a := 4294967296) (by decide)).1 h5
    omega
theorem IV.own.len_le {x : IV} {D : MH} {z : Int} (h : x.own D z) {k : Nat} (hz : z.natAbs < 4294967296 ^ k) : x.n ≤ k := (h.nrm (U := fun _ => none) (M := [])).len_le hz

/-- An integer with at most k digits. -/
def Sz (z : Int) (k : Nat) : Prop := z.natAbs < 4294967296 ^ k
theorem Sz.mono {z : Int} {j k : Nat} (h : Sz z j) (hk : j ≤ k) : Sz z k := Nat.lt_of_lt_of_le h (Nat.pow_le_pow_right (by decide) hk)
theorem Sz.mul {z u : Int} {j k : Nat} (h : Sz z j) (h' : Sz u k) : Sz (z * u) (j + k) := by
  unfold Sz at *
  rw [Int.natAbs_mul, Nat.pow_add]
  exact Nat.mul_lt_mul'' h h'
theorem Sz.add {z u : Int} {k : Nat} (h : Sz z k) (h' : Sz u k) : Sz (z + u) (k + 1) := by
  unfold Sz at *
  have := Int.natAbs_add_le z u
  rw [Nat.pow_succ]
  omega
theorem Sz.neg {z : Int} {k : Nat} (h : Sz z k) : Sz (-z) k := by
  unfold Sz at *
  rwa [Int.natAbs_neg]
theorem Sz.sub {z u : Int} {k : Nat} (h : Sz z k) (h' : Sz u k) : Sz (z - u) (k + 1) := by
  rw [Int.sub_eq_add_neg]; exact h.add h'.neg
theorem Sz.abs {z : Int} {k : Nat} (h : Sz z k) : Sz (z.natAbs : Int) k := by
  unfold Sz at *
  simpa using h
theorem Sz.gcd {z u : Int} {k : Nat} (h : Sz z k) (h' : Sz u k) : Sz (Int.gcd z u : Int) k := by
  unfold Sz at *
  rw [Int.natAbs_natCast]
  by_cases hz : z = 0
  · subst hz; simpa using h'
  · have := Nat.le_of_dvd (Int.natAbs_pos.2 hz) (Int.natAbs_dvd_natAbs.2 (Int.gcd_dvd_left z u))
    rw [Int.natAbs_natCast] at this
    omega
theorem IV.rep.sz {x : IV} {z : Int} (h : x.rep U M z) {k : Nat} (hn : x.n ≤ k) : Sz z k := by
  obtain ⟨l, hd, rfl⟩ := h
  refine Sz.mono (j := x.n) ?_ hn
  unfold Sz
  rw [show (sg x.neg (val l)).natAbs = val l by unfold sg; split <;> omega, ← hd.len]
  exact val_lt hd.bd
theorem IV.own.le {x : IV} {D : MH} {z : Int} (h : x.own D z) {k b : Nat} (hz : Sz z k) (hk : k ≤ b) : x.n ≤ b := Nat.le_trans (h.len_le hz) hk

end Go.Proofs.Ytcakainebimmdaa
