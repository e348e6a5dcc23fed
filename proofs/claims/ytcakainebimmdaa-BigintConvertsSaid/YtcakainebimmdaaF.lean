/- Decimal digits, the lowest first. -/
import Derived.Test.YtcakainebimmdaaHb
namespace Go.Hp

def dval : List Nat → Nat
  | [] => 0
  | d :: l => d + 10 * dval l
theorem dval_append (a b : List Nat) : dval (a ++ b) = dval a + 10 ^ a.length * dval b := by
  induction a with
  | nil => simp [dval]
  | cons d a ih => simp only [List.cons_append, dval, ih, List.length_cons, Nat.pow_succ, Nat.mul_add, Nat.add_assoc]; congr 1; congr 1; rw [Nat.mul_comm (10 ^ a.length) 10, Nat.mul_assoc]
theorem dval_snoc (a : List Nat) (d : Nat) : dval (a ++ [d]) = dval a + 10 ^ a.length * d := by rw [dval_append]; simp [dval]
theorem dval_zero {a : List Nat} (h : dval a = 0) : ∀ d ∈ a, d = 0 := by
  induction a with
  | nil => intro d hd; cases hd
  | cons e a ih =>
    simp only [dval] at h
    intro d hd
    rcases List.mem_cons.1 hd with rfl | hd
    · omega
    · exact ih (by omega) d hd

def dl (n : Nat) : List Nat := if n < 10 then [n] else n % 10 :: dl (n / 10)
termination_by n
decreasing_by omega

theorem dl_small {n : Nat} (h : n < 10) : dl n = [n] := by rw [dl, if_pos h]
theorem dl_step {n : Nat} (h : ¬ n < 10) : dl n = n % 10 :: dl (n / 10) := by rw [dl, if_neg h]

theorem dl_spec (n : Nat) : (∀ d ∈ dl n, d < 10) ∧ dval (dl n) = n ∧ dl n ≠ [] := by
  induction n using Nat.strongRecOn with
  | ind n ih =>
    by_cases h : n < 10
    · rw [dl_small h]
      exact ⟨fun d hd => by rw [List.mem_singleton.1 hd]; exact h, by simp [dval], by simp⟩
    · rw [dl_step h]
      obtain ⟨h1, h2, h3⟩ := ih (n / 10) (by omega)
      refine ⟨fun d hd => ?_, ?_, by simp⟩
      · rcases List.mem_cons.1 hd with rfl | hd
        · omega
        · exact h1 d hd
      · simp only [dval, h2]; omega

/-- The digits of a number that is not 0, the highest of which is not 0. -/
theorem dl_of : ∀ {l : List Nat} {d : Nat}, (∀ e ∈ l ++ [d], e < 10) → d ≠ 0 → l ++ [d] = dl (dval (l ++ [d]))
  | [], d, h, hd => by
    have := h d (by simp)
    simp only [List.nil_append, dval, Nat.mul_zero, Nat.add_zero]
    rw [dl_small this]
  | e :: l, d, h, hd => by
    have ih := dl_of (l := l) (d := d) (fun x hx => h x (List.mem_cons_of_mem _ hx)) hd
    have he := h e (List.mem_cons_self ..)
    have hpos : dval (l ++ [d]) ≠ 0 := fun hz => hd (dval_zero hz d (by simp))
    rw [List.cons_append]
    simp only [dval]
    rw [dl_step (by omega), show (e + 10 * dval (l ++ [d])) % 10 = e by omega, show (e + 10 * dval (l ++ [d])) / 10 = dval (l ++ [d]) by omega, ← ih]

/-- The decimal form. -/
def fmt (z : Int) : List Nat := (if z < 0 then [45] else []) ++ ((dl z.natAbs).map (48 + ·)).reverse

theorem fmt_zero : fmt 0 = [48] := by simp [fmt, dl_small]

end Go.Hp
