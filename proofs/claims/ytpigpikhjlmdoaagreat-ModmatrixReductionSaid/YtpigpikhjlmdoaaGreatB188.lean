/- Short fractions in the laws of layer 13; residues as integers; sizes of short matrices. -/
import Derived.Test.YtpigpikhjlmdoaaGreatM45
import Derived.Test.YtpigpikhjlmdoaaGreatB165
import Derived.Test.YtpigpikhjlmdoaaGreatM35
import Derived.Test.YtpigpikhjlmdoaaGreatM46
import Derived.Test.YtpigpikhjlmdoaaGreatM29
namespace Go.Proofs.YtpigpikhjlmdoaaGreat
open Go.Hp
open Go.Fq (Pm Fp Prm)
variable {G : World} {U U' : UH} {M M' : MH}
theorem short13_ct {n c1 : Nat} {p1 : Option Addr} {as1 : List Value} {f : Nat → Rat} (ra : RowAt U M 4 p1 n as1) (ea : El Xq U as1 f) (hn : n ≤ 9223372036854775807) :
    Ct Tryz.prog 8 [.slice p1 n c1] G U M fun v U' D => ∃ b : Bool, v = .bool b ∧ (b = true → El (Wq 1) U as1 f) ∧ U = U' ∧ D = [] := by
  refine ct_of_st Tryz.func8 rfl rfl rfl rfl ?_
  try refine run_s ?_
  refine st_loop (fun z E U' M' => ∃ i : Nat, i ≤ n ∧ (∀ k x, k < i → as1[k]? = some x → Wq 1 U x (f k)) ∧ E = [(3, .int .i64 (i : Int)), (0, .slice p1 n c1)] ∧ U = U' ∧ M = M' ∧ z = n - i) (n0 := n)
    (E0 := [(3, .int .i64 ((0 : Nat) : Int)), (0, .slice p1 n c1)]) ⟨rfl, rfl, trivial⟩ ⟨0, by omega, (fun k x h => absurd h (Nat.not_lt_zero k)), rfl, rfl, rfl, rfl⟩ ?_
  rintro z E U' M' ⟨i, hi, hall, rfl, rfl, rfl, rfl⟩
  try refine run_s ?_
  refine st_dec rfl (fun h => ?_) (fun h => ?_)
  · have hin : i < n := by omega
    obtain ⟨v1, hv1⟩ := ra.at hin
    obtain ⟨x1, rfl, hx1⟩ := ea _ _ hv1
    try refine run_s ?_
    refine w_addr (j := i) hin (ra.get _ _ hv1).1 ?_
    try refine run_s ?_
    refine sl_y (yl_loadRc (j := 1) (u := .slice x1.num.p x1.num.n x1.num.c) sym rfl rfl (by rw [elt_add, elt_add]) rfl rfl ra hv1 rfl) rfl rfl rfl rfl ?_
    try refine run_s ?_
    refine sl_gdec rfl rfl (fun h1 => ?_) (fun h1 => ?_)
    · try refine run_s ?_
      exact sk_ret [] sym rfl (.cons (.tmp rfl) .nil) uc sb (.inl rfl) ⟨false, rfl, (fun h => by cases h), rfl, rfl⟩
    · try refine run_s ?_
      refine w_addr (j := i) hin (ra.get _ _ hv1).1 ?_
      try refine run_s ?_
      refine sl_y (yl_loadRc (j := 3) (u := .slice x1.den.p x1.den.n x1.den.c) sym rfl rfl (by rw [elt_add, elt_add]) rfl rfl ra hv1 rfl) rfl rfl rfl rfl ?_
      try refine run_s ?_
      refine st_dec rfl (fun h2 => ?_) (fun h2 => ?_)
      · try refine run_s ?_
        exact sk_ret [] sym rfl (.cons (.tmp rfl) .nil) uc sb (.inl rfl) ⟨false, rfl, (fun h => by cases h), rfl, rfl⟩
      · try refine run_s ?_
        exact sk_again (E' := [(3, .int .i64 ((i : Int) + 1)), (0, .slice p1 n c1)]) (m := n - (i + 1)) ⟨rfl, rfl, trivial⟩ (by omega)
          ⟨i + 1, by omega, (fun k x hk hx => by
            rcases Nat.lt_or_eq_of_le (Nat.le_of_lt_succ hk) with h3 | h3
            · exact hall k x h3 hx
            · subst h3
              rw [hv1] at hx
              cases hx
              exact ⟨x1, rfl, hx1, ⟨by omega, by omega⟩⟩), rfl, rfl, rfl, rfl⟩
  · have e : i = n := by omega
    subst e
    try refine run_s ?_
    exact sk_ret [] sym rfl (.cons (.tmp rfl) .nil) uc sb (.inl rfl) ⟨true, rfl, (fun _ k x hk => hall k x (ra.lt hk) hk), rfl, rfl⟩
theorem Vmz.vz {P : Pm} {r c : Nat} {v : Value} {B : Nat → Nat → Fp P} (h : Vmz (Vf P) r c U v B) (hp : P.1 ≤ 65536) : Vmz Vz r c U v (fun i j => ((B i j).v : Int)) := by
  obtain ⟨a, h1, p, cc, us, h2, h3, h4, el⟩ := h
  refine ⟨a, h1, p, cc, us, h2, h3, h4, fun k x hx => ?_⟩
  have := (fl c B k).lt
  exact ⟨el k x hx, by show -9223372036854775808 ≤ ((fl c B k).v : Int); omega, by show ((fl c B k).v : Int) ≤ 9223372036854775807; omega⟩
theorem ofm_v {P : Pm} (B : Nat → Nat → Fp P) : Ofm P (fun i j => ((B i j).v : Int)) = B := funext fun _ => funext fun _ => Fq.of_v _
theorem fl_short {n : Nat} {A : Nat → Nat → Rat} (hs : ∀ i j, i < n → j < n → Szq (A i j) 1) (hn : n ≤ 5) : FL n A 264 := by
  have hnn : n * n ≤ 5 * 5 := Nat.mul_le_mul hn hn
  obtain ⟨D, h1, ⟨d, rfl, hd⟩, h3⟩ := common (a := 1) (n * n) (fl n A) fun k hk => hs _ _ (fl_lt hk).1 (fl_lt hk).2
  have hb : ∀ k, k ≤ 26 → 4294967296 ^ k ≤ 4294967296 ^ 26 := fun k hk => Nat.pow_le_pow_right (by decide) hk
  have hz : ∀ i j, ∃ z : Int, i < n → j < n → (d : Rat) * A i j = (z : Rat) ∧ z.natAbs ≤ 4294967296 ^ 26 := fun i j => by
    by_cases h : i < n ∧ j < n
    · have h4 := h3 _ (ij_lt h.1 h.2)
      rw [fl_at h.2] at h4
      obtain ⟨z, h5, h6⟩ := h4
      refine ⟨z, fun _ _ => ⟨h5, Nat.le_trans h6 ?_⟩⟩
      rw [← Nat.pow_add]
      exact hb _ (by omega)
    · exact ⟨0, fun h4 h5 => absurd ⟨h4, h5⟩ h⟩
  exact fl_of (n := n) (β := 4294967296 ^ 26) (s := 131) (D := d) (Z := fun i j => Classical.choose (hz i j)) hn (fun e => h1 (by rw [e]; rfl)) (fun i j hi hj => (Classical.choose_spec (hz i j) hi hj).1) (fun i j hi hj => (Classical.choose_spec (hz i j) hi hj).2) (by decide) (by decide)
    (Nat.lt_of_le_of_lt (Nat.pow_le_pow_left (Nat.le_trans hd (hb _ (by omega))) 5) (by decide)) (fun i j hi hj => (hs i j hi hj).mono (by decide)) (by decide)
end Go.Proofs.YtpigpikhjlmdoaaGreat
