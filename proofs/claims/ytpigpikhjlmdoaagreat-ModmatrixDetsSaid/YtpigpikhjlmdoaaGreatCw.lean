/- Remainders modulo many primes; a product of great primes. -/
import Derived.Test.YtpigpikhjlmdoaaGreatM1
import Derived.Test.YtpigpikhjlmdoaaGreatM40
import Derived.Test.YtpigpikhjlmdoaaGreatCr
namespace Go.Fq

/-- The greatest primes of 16 bits that are used. -/
def bigP : List Nat := [65521, 65519, 65497, 65479, 65449, 65447, 65437, 65423, 65419, 65413, 65407, 65393, 65381, 65371, 65357, 65353, 65327, 65323, 65309, 65293, 65287, 65269, 65267, 65257, 65239, 65213]
def chkP : Bool := bigP.all fun q => decide (2 ≤ q ∧ q ≤ 65521) && (List.range 256).all fun d => decide (d < 2) || decide (q % d ≠ 0)
theorem chkP_ok : chkP = true := by kernel_rfl
theorem bigP_prm {q : Nat} (h : q ∈ bigP) : Prm q ∧ q ≤ 65521 := by
  have h1 := chkP_ok
  unfold chkP at h1
  have h2 := List.all_eq_true.1 h1 q h
  simp only [Bool.and_eq_true, decide_eq_true_eq] at h2
  obtain ⟨⟨h3, h4⟩, h5⟩ := h2
  refine ⟨Classical.byContradiction fun hn => ?_, h4⟩
  obtain ⟨p, hp, hd, hpp⟩ := not_prm h3 hn
  have h6 : p < 256 := by
    rcases Nat.lt_or_ge p 256 with h | h
    · exact h
    · have := Nat.mul_le_mul h h
      omega
  have h7 := List.all_eq_true.1 h5 p (List.mem_range.2 h6)
  simp only [Bool.or_eq_true, decide_eq_true_eq] at h7
  rcases h7 with h8 | h8
  · have := hp.two; omega
  · exact h8 (Nat.mod_eq_zero_of_dvd hd)
def prodL : List Nat → Nat
  | [] => 1
  | q :: l => q * prodL l
def cop : List Nat → Bool
  | [] => true
  | q :: l => Nat.beq (Nat.gcd q (prodL l)) 1 && cop l
theorem cop_ok : cop bigP = true := by kernel_rfl
theorem big_ok : Nat.ble (4294967296 ^ 12 * 65536 + 1) (prodL bigP) = true := by kernel_rfl
theorem cop_dvd : ∀ {l : List Nat} {M : Nat}, cop l = true → (∀ q ∈ l, q ∣ M) → prodL l ∣ M
  | [], M, _, _ => Nat.one_dvd M
  | q :: l, M, h, hd => by
    unfold cop at h
    simp only [Bool.and_eq_true] at h
    have h1 : Nat.gcd q (prodL l) = 1 := Nat.eq_of_beq_eq_true h.1
    exact Nat.Coprime.mul_dvd_of_dvd_of_dvd h1 (hd q (List.mem_cons_self ..)) (cop_dvd h.2 fun r hr => hd r (List.mem_cons_of_mem _ hr))
theorem nd {q : Nat} {z : Int} : (q : Int) ∣ z ↔ q ∣ z.natAbs := by rw [← Int.natAbs_dvd_natAbs, Int.natAbs_natCast]
theorem dvd_pz {f : Nat → Int} : ∀ {n s : Nat}, s < n → f s ∣ La.pz n f
  | 0, _, h => absurd h (Nat.not_lt_zero _)
  | n + 1, s, h => by
    show f s ∣ La.pz n f * f n
    rcases Nat.lt_or_eq_of_le (Nat.le_of_lt_succ h) with h1 | h1
    · exact Int.dvd_mul_of_dvd_left (dvd_pz h1)
    · subst h1; exact Int.dvd_mul_left ..
/-- A product that all those primes divide. -/
theorem pz_big {n : Nat} {f : Nat → Int} (hp : ∀ s, s < n → 0 < f s) (h : ∀ q, Prm q → q ≤ 65521 → ∃ s, s < n ∧ f s = (q : Int)) : 4294967296 ^ 12 * 65536 < La.pz n f := by
  have h0 := La.pz_pos hp
  have h1 : prodL bigP ∣ (La.pz n f).natAbs := cop_dvd cop_ok fun q hq => by
    obtain ⟨h2, h3⟩ := bigP_prm hq
    obtain ⟨s, hs, e⟩ := h q h2 h3
    have h4 := dvd_pz (f := f) hs
    rw [e] at h4
    exact nd.1 h4
  have h2 := Nat.le_of_dvd (by omega) h1
  have h3 := Nat.le_of_ble_eq_true big_ok
  have h4 : 4294967296 ^ 12 * 65536 < (La.pz n f).natAbs := by omega
  have h5 : ((4294967296 ^ 12 * 65536 : Nat) : Int) < La.pz n f := by omega
  exact h5
/-- A prime that is none of the factors. -/
theorem pz_cop {n p : Nat} {f : Nat → Int} (hp : Prm p) (h : ∀ s, s < n → ∃ q : Nat, f s = (q : Int) ∧ Prm q ∧ q ≠ p) : Int.gcd (La.pz n f) (p : Int) = 1 := by
  have key : ∀ m, m ≤ n → ¬ (p : Int) ∣ La.pz m f := fun m => by
    induction m with
    | zero =>
      intro _ h1
      have h2 : (p : Int) ∣ 1 := h1
      have h3 := Int.le_of_dvd (by decide) h2
      have := hp.two
      omega
    | succ m ih =>
      intro hm h1
      obtain ⟨q, e, hq, hne⟩ := h m (by omega)
      have h2 : (p : Int) ∣ La.pz m f * f m := h1
      have h3 := nd.1 h2
      rw [Int.natAbs_mul, e] at h3
      rcases prm_mul hp h3 with h4 | h4
      · exact ih (by omega) (nd.2 h4)
      · exact hne (prm_dvd hp hq h4).symm
  have h1 := key n (Nat.le_refl n)
  have hd1 : (Int.gcd (La.pz n f) (p : Int)) ∣ p := by
    have := Int.gcd_dvd_right (a := La.pz n f) (b := (p : Int))
    exact Int.natCast_dvd_natCast.1 this
  have hd2 : ((Int.gcd (La.pz n f) (p : Int) : Nat) : Int) ∣ La.pz n f := Int.gcd_dvd_left ..
  generalize Int.gcd (La.pz n f) (p : Int) = g at hd1 hd2
  have h2 := hp.two
  have hg0 : 0 < g := Nat.pos_of_dvd_of_pos hd1 (by omega)
  have hgp := Nat.le_of_dvd (by omega) hd1
  rcases Nat.lt_or_ge g 2 with h3 | h3
  · omega
  · rcases Nat.lt_or_eq_of_le hgp with h4 | h4
    · exact absurd (Nat.mod_eq_zero_of_dvd hd1) (hp.div g h3 h4)
    · subst h4; exact absurd hd2 h1
theorem mul_dvd {a b z : Int} (hg : Int.gcd a b = 1) (ha : a ∣ z) (hb : b ∣ z) : a * b ∣ z := by
  rw [← Int.natAbs_dvd_natAbs, Int.natAbs_mul]
  exact Nat.Coprime.mul_dvd_of_dvd_of_dvd hg (Int.natAbs_dvd_natAbs.2 ha) (Int.natAbs_dvd_natAbs.2 hb)
/-- The one remainder of small absolute value. -/
theorem crt_near {x d b M : Int} (hx0 : 0 ≤ x) (hx1 : x < M) (hd : M ∣ x - d) (hb : -b ≤ d ∧ d ≤ b) (hM : b * 2 < M) : d = if x * 2 - M > 0 then x - M else x := by
  obtain ⟨q, hq⟩ := hd
  have hq0 : q = 0 ∨ q = 1 := by
    rcases Int.lt_or_le q 0 with h | h
    · have := Int.mul_le_mul_of_nonneg_left (show q ≤ -1 by omega) (show 0 ≤ M by omega)
      omega
    · rcases Int.lt_or_le 1 q with h1 | h1
      · have := Int.mul_le_mul_of_nonneg_left (show 2 ≤ q by omega) (show 0 ≤ M by omega)
        omega
      · omega
  rcases hq0 with rfl | rfl
  · rw [Int.mul_zero] at hq
    rw [if_neg (by omega)]; omega
  · rw [Int.mul_one] at hq
    rw [if_pos (by omega)]; omega
end Go.Fq
