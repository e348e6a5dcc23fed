/- Walks of the helpers of layer 13's statements: awake; comparisons. -/
import Derived.Test.YtlnmhjkagnfnaaaB160
import Derived.Test.YtlnmhjkagnfnaaaM43
import Derived.Test.YtlnmhjkagnfnaaaM35
import Derived.Test.YtlnmhjkagnfnaaaM17
namespace Go.Proofs.Ytlnmhjkagnfnaaa
open Go.Hp
open Go.Fq (Pm Fp Prm)
variable {G : World} {U U' : UH} {M : MH}

theorem bSameFMatrix_ct {α β : Type} {ok1 : UH → Value → α → Prop} {ok2 : UH → Value → β → Prop} [KeptC ok1] [KeptC ok2] {r c r' c' : Nat} {vx vy : Value} {A : Nat → Nat → α} {B : Nat → Nat → β} (z1 : α → Int) (z2 : β → Int) (h1 : ∀ U v a, ok1 U v a → v = .int .i64 (z1 a)) (h2 : ∀ U v a, ok2 U v a → v = .int .i64 (z2 a)) (hx : Vmm ok1 r c U M vx A) (hy : Vmm ok2 r' c' U M vy B) (hrc : r * c ≤ 1000000000) (hrc' : r' * c' ≤ 1000000000) :
    Ct Try.prog 20 [vx, vy] G U M fun v U' D => ∃ b : Bool, v = .bool b ∧ (b = true ↔ r = r' ∧ c = c' ∧ ∀ i j, i < r → j < c → z1 (A i j) = z2 (B i j)) ∧ U = U' ∧ D = [] := by
  obtain ⟨_, rfl, hx2⟩ := hx
  obtain ⟨_, rfl, hy2⟩ := hy
  obtain ⟨px, cx, xs, rfl, -⟩ := id hx2
  obtain ⟨py, cy, ys, rfl, -⟩ := id hy2
  refine ct_of_st Try.func20 rfl rfl rfl rfl ?_
  repeat (first | refine run_S ?_ | refine w_box (fun _ => ?_) | refine w_al (fun _ => ?_))
  refine sl_gdec rfl rfl (fun h3 => ?_) (fun h3 => ?_)
  · have e : r = r' := by omega
    subst e
    repeat (first | refine run_S ?_ | refine w_box (fun _ => ?_) | refine w_al (fun _ => ?_))
    refine sl_gdec rfl rfl (fun h4 => ?_) (fun h4 => ?_)
    · have e : c = c' := by omega
      subst e
      repeat (first | refine run_S ?_ | refine w_box (fun _ => ?_) | refine w_al (fun _ => ?_))
      refine sl_call rfl rfl rfl rfl rfl rfl (fun _ => bInts_ct z1 z2 h1 h2 (Ls.up (M' := _) hx2 KeptC.out uc sb) (Ls.up (M' := _) hy2 KeptC.out uc sb) hrc hrc) ?_
      rintro v U1 D hU ⟨b, rfl, hb, rfl, rfl⟩
      repeat (first | refine run_S ?_ | refine w_box (fun _ => ?_) | refine w_al (fun _ => ?_))
      refine sk_ret [] sym rfl (.cons (.tmp rfl) .nil) uc sb (.inl rfl) ⟨b, rfl, hb.trans ⟨fun h => ⟨rfl, rfl, fun i j hi hj => ?_⟩, fun h => ⟨rfl, fun k hk => h.2.2 _ _ (fl_lt hk).1 (fl_lt hk).2⟩⟩, rfl, rfl⟩
      have := h.2 _ (ij_lt hi hj)
      rwa [fl_at hj, fl_at hj] at this
    · repeat (first | refine run_S ?_ | refine w_box (fun _ => ?_) | refine w_al (fun _ => ?_))
      exact sk_ret [] sym rfl (.cons (.tmp rfl) .nil) uc sb (.inl rfl) ⟨false, rfl, ⟨(fun h => by cases h), fun h => absurd (congrArg Int.ofNat h.2.1) h4⟩, rfl, rfl⟩
  · repeat (first | refine run_S ?_ | refine w_box (fun _ => ?_) | refine w_al (fun _ => ?_))
    exact sk_ret [] sym rfl (.cons (.tmp rfl) .nil) uc sb (.inl rfl) ⟨false, rfl, ⟨(fun h => by cases h), fun h => absurd (congrArg Int.ofNat h.1) h3⟩, rfl, rfl⟩

/-- A fraction that was found, with a positive denominator. -/
theorem recon_pos {most : Nat} {m a n d : Int} (h0 : 0 ≤ n) (h1 : n ≤ most) (h2 : d ≠ 0) (h3 : d.natAbs ≤ most) (h4 : Int.gcd d m = 1) (h5 : m ∣ n - d * a) :
    ∃ n' d' : Int, 1 ≤ d' ∧ d' ≤ most ∧ -(most : Int) ≤ n' ∧ n' ≤ most ∧ Int.gcd d' m = 1 ∧ m ∣ n' - d' * a ∧ Rat.divInt n d = Rat.divInt n' d' := by
  rcases Int.lt_or_le d 0 with h | h
  · refine ⟨-n, -d, by omega, by omega, by omega, by omega, by rw [Int.neg_gcd]; exact h4, ?_, (Rat.neg_divInt_neg n d).symm⟩
    have e : -n - -d * a = -(n - d * a) := by rw [Int.neg_mul]; omega
    rw [e]
    exact Int.dvd_neg.2 h5
  · exact ⟨n, d, by omega, by omega, by omega, h1, h4, h5, rfl⟩
theorem root_uniq {a b n : Nat} (h1 : a * a ≤ n) (h2 : n < (a + 1) * (a + 1)) (h3 : b * b ≤ n) (h4 : n < (b + 1) * (b + 1)) : a = b := by
  rcases Nat.lt_trichotomy a b with h | h | h
  · have := Nat.mul_le_mul (show a + 1 ≤ b by omega) (show a + 1 ≤ b by omega)
    omega
  · exact h
  · have := Nat.mul_le_mul (show b + 1 ≤ a by omega) (show b + 1 ≤ a by omega)
    omega
theorem recon_same {most : Nat} {m a n d n' d' : Int} (hm : most * most ≤ ((m - 1) / 2).natAbs) (hm2 : 2 ≤ m) (h1 : 1 ≤ d) (h2 : d ≤ most) (h3 : -(most : Int) ≤ n) (h4 : n ≤ most) (h5 : m ∣ n - d * a) (k1 : 1 ≤ d') (k2 : d' ≤ most) (k3 : -(most : Int) ≤ n') (k4 : n' ≤ most) (k5 : m ∣ n' - d' * a) : Rat.divInt n d = Rat.divInt n' d' := by
  have hmm : 2 * ((most : Int) * most) < m := by
    rw [← Int.natCast_mul]
    omega
  exact (Rat.divInt_eq_divInt_iff (by omega) (by omega)).2 (Rc.unique hmm h3 h4 (by omega) h2 k3 k4 (by omega) k2 h5 k5)

theorem prm3 : Prm 3 := ⟨by decide, fun d h1 h2 => by
  have : d = 2 := by omega
  subst this; decide⟩
def P3 : Pm := ⟨3, prm3⟩
/-- The kernel in 'awake'. -/
theorem awake_ker {s : Nat} {R : Nat → Nat → Fp P3} {q : Nat → Nat} (h : La.KerOf 3 1 s (Ofm P3 fun i _ => [1, 1, 2].getD i 0) R q) : s = 2 ∧ ∀ i j, i < 2 → j < 3 → ((R i j).v : Int) = ([1, 0, 1, 0, 1, 1] : List Int).getD (i * 3 + j) 0 := by
  let R0 : Nat → Nat → Fp P3 := fun i j => Fq.of P3 (([1, 0, 1, 0, 1, 1] : List Int).getD (i * 3 + j) 0)
  have e0 : R0 0 0 = 1 := rfl
  have e1 : R0 0 1 = 0 := rfl
  have e2 : R0 0 2 = 1 := rfl
  have e3 : R0 1 0 = 0 := rfl
  have e4 : R0 1 1 = 1 := rfl
  have e5 : R0 1 2 = 1 := rfl
  have hk : La.KerOf 3 1 2 (Ofm P3 fun i _ => [1, 1, 2].getD i 0) R0 id := by
    refine ⟨⟨fun i hi => by show i < 3; omega, fun i k h1 _ => h1, fun i k hi hk => ?_, fun i j hi hj => ?_⟩, fun x => ?_⟩
    · rcases show i = 0 ∨ i = 1 by omega with rfl | rfl <;> rcases show k = 0 ∨ k = 1 by omega with rfl | rfl
      · exact e0
      · exact e1
      · exact e3
      · exact e4
    · have hj' : j < i := hj
      have : i = 1 ∧ j = 0 := by omega
      rw [this.1, this.2]; exact e3
    · have t0 : Ofm P3 (fun i _ => [1, 1, 2].getD i 0) 0 0 = 1 := rfl
      have t1 : Ofm P3 (fun i _ => [1, 1, 2].getD i 0) 1 0 = 1 := rfl
      have t2 : Ofm P3 (fun i _ => [1, 1, 2].getD i 0) 2 0 = -1 := by
        rw [← Fq.of_one, ← Fq.of_neg]
        exact Fq.of_eq.2 (by decide)
      have key : La.Ker 3 1 (Ofm P3 fun i _ => [1, 1, 2].getD i 0) x ↔ x 2 = x 0 + x 1 := by
        have e : (La.sm 3 fun i => x i * Ofm P3 (fun i _ => [1, 1, 2].getD i 0) i 0) = x 0 + x 1 + -(x 2) := by
          show 0 + x 0 * _ + x 1 * _ + x 2 * _ = _
          rw [t0, t1, t2, La.mul_one, La.mul_one, La.mul_neg, La.mul_one, La.zero_add]
        constructor
        · intro hx
          have := hx 0 (by omega)
          rw [e] at this
          exact (La.eq_of_sub this).symm
        · intro hx j hj
          have : j = 0 := by omega
          subst this
          rw [e, hx, La.add_neg_self]
      rw [key]
      constructor
      · intro hx
        refine ⟨x, fun j hj => ?_⟩
        show x j = 0 + x 0 * R0 0 j + x 1 * R0 1 j
        rcases show j = 0 ∨ j = 1 ∨ j = 2 by omega with rfl | rfl | rfl
        · rw [e0, e3, La.mul_one, La.mul_zero, La.zero_add, La.add_zero]
        · rw [e1, e4, La.mul_one, La.mul_zero, La.zero_add, La.zero_add]
        · rw [e2, e5, La.mul_one, La.mul_one, La.zero_add]; exact hx
      · rintro ⟨c, hc⟩
        have h0 : x 0 = 0 + c 0 * R0 0 0 + c 1 * R0 1 0 := hc 0 (by omega)
        have h1 : x 1 = 0 + c 0 * R0 0 1 + c 1 * R0 1 1 := hc 1 (by omega)
        have h2 : x 2 = 0 + c 0 * R0 0 2 + c 1 * R0 1 2 := hc 2 (by omega)
        rw [e0, e3, La.mul_one, La.mul_zero, La.zero_add, La.add_zero] at h0
        rw [e1, e4, La.mul_one, La.mul_zero, La.zero_add, La.zero_add] at h1
        rw [e2, e5, La.mul_one, La.mul_one, La.zero_add] at h2
        rw [h0, h1, h2]
  obtain ⟨rfl, -, hR⟩ := h.unique hk
  refine ⟨rfl, fun i j hi hj => ?_⟩
  rw [hR i j hi hj]
  show ((Fq.of P3 _).v : Int) = _
  rw [Fq.of_val]
  rcases show i = 0 ∨ i = 1 by omega with rfl | rfl <;> rcases show j = 0 ∨ j = 1 ∨ j = 2 by omega with rfl | rfl | rfl <;> decide
end Go.Proofs.Ytlnmhjkagnfnaaa
