/- Texts of this seat's own, merged: each begins with its own remark. -/
import Derived.Test.YtpigpikhjlmdoaaB172
import Derived.Test.YtpigpikhjlmdoaaM42
import Derived.Test.YtpigpikhjlmdoaaM22
import Derived.Test.YtpigpikhjlmdoaaRf
import Derived.Test.YtpigpikhjlmdoaaM19
import Derived.Test.YtpigpikhjlmdoaaM34
/- Walks of layer 13: matrices of fractions reduced modulo a prime, by the program and by the reference. -/
namespace Go.Proofs.Ytpigpikhjlmdoaa
open Go.Hp
open Go.Fq (Pm Fp Prm)
variable {G : World} {U U' : UH} {M : MH}

abbrev zFM : Value := .agg #[.int .i64 0, .int .i64 0, .slice none 0 0]

/-- Matrices that are zero values. -/
theorem none13_ct {p : Option Addr} {n c : Nat} {vs : List Value} (ra : RowAt U M 3 p n vs) (hz : ∀ v ∈ vs, v = zFM) (hn : n ≤ 1000) :
    Ct Try.prog 34 [.slice p n c] G U M fun v U' D => v = .bool true ∧ U = U' ∧ D = [] := by
  refine ct_of_st Try.func34 rfl rfl rfl rfl ?_
  repeat (first | refine run_S ?_ | refine w_box (fun _ => ?_) | refine w_al (fun _ => ?_))
  try refine st_anti (M' := M) (ULe.refl _) sbk ?_
  refine st_loop (fun z E U' M' => ∃ (i : Nat), i ≤ n ∧ U = U' ∧ E = [(3, .int .i64 (i : Int)), (0, .slice p n c)] ∧ ULe U U' ∧ M' = M ∧ z = n - i) (n0 := n - 0) (E0 := [(3, .int .i64 ((0 : Nat) : Int)), (0, .slice p n c)]) ⟨rfl, rfl, trivial⟩ ⟨0, by omega, rfl, rfl, uc, rfl, rfl⟩ ?_
  rintro z E U1 M' ⟨i, hi, rfl, rfl, hU1, rfl, rfl⟩
  try refine run_s ?_
  refine st_dec rfl (fun h => ?_) (fun h => ?_)
  · have hin : i < n := by omega
    obtain ⟨v1, hv1⟩ := ra.at hin
    obtain rfl := hz _ (List.mem_of_getElem? hv1)
    have hp := (ra.get _ _ hv1).1
    repeat (first | refine run_S ?_ | refine w_box (fun _ => ?_) | refine w_al (fun _ => ?_))
    refine w_addr (j := i) hin hp ?_
    repeat (first | refine run_S ?_ | refine w_box (fun _ => ?_) | refine w_al (fun _ => ?_))
    refine sl_y (yl_loadRc (j := 0) (u := .int .i64 0) sym rfl rfl (by rw [elt_add]) rfl rfl ra hv1 rfl) rfl rfl rfl rfl ?_
    repeat (first | refine run_S ?_ | refine w_box (fun _ => ?_) | refine w_al (fun _ => ?_))
    refine sl_gdec rfl rfl (fun h => absurd rfl h) (fun _ => ?_)
    repeat (first | refine run_S ?_ | refine w_box (fun _ => ?_) | refine w_al (fun _ => ?_))
    refine w_addr (j := i) hin hp ?_
    repeat (first | refine run_S ?_ | refine w_box (fun _ => ?_) | refine w_al (fun _ => ?_))
    refine sl_y (yl_loadRc (j := 1) (u := .int .i64 0) sym rfl rfl (by rw [elt_add]) rfl rfl ra hv1 rfl) rfl rfl rfl rfl ?_
    repeat (first | refine run_S ?_ | refine w_box (fun _ => ?_) | refine w_al (fun _ => ?_))
    refine sl_gdec rfl rfl (fun h => absurd rfl h) (fun _ => ?_)
    repeat (first | refine run_S ?_ | refine w_box (fun _ => ?_) | refine w_al (fun _ => ?_))
    refine w_addr (j := i) hin hp ?_
    repeat (first | refine run_S ?_ | refine w_box (fun _ => ?_) | refine w_al (fun _ => ?_))
    refine sl_y (yl_loadRc (j := 2) (u := .slice none 0 0) sym rfl rfl (by rw [elt_add]) rfl rfl ra hv1 rfl) rfl rfl rfl rfl ?_
    repeat (first | refine run_S ?_ | refine w_box (fun _ => ?_) | refine w_al (fun _ => ?_))
    refine st_ne rfl (fun h => absurd rfl h) (fun _ => ?_)
    repeat (first | refine run_S ?_ | refine w_box (fun _ => ?_) | refine w_al (fun _ => ?_))
    exact sk_again (E' := [(3, .int .i64 ((i : Int) + 1)), (0, .slice p n c)]) (m := n - (i + 1)) ⟨rfl, rfl, trivial⟩ (by omega) ⟨i + 1, by omega, rfl, rfl, uc, rfl, rfl⟩
  · repeat (first | refine run_S ?_ | refine w_box (fun _ => ?_) | refine w_al (fun _ => ?_))
    exact sk_ret [] sym rfl (.cons (.tmp rfl) .nil) uc sb (.inl rfl) ⟨rfl, rfl, rfl⟩
theorem modP_get {z : Int} (h : modP z = true) : ∃ P : Pm, z = (P.1 : Int) ∧ P.1 ≤ 65521 := by
  unfold modP at h
  split at h
  · obtain ⟨h1, h2⟩ := isP_iff.1 h
    refine ⟨⟨z.toNat, h2⟩, by show z = ((z.toNat : Nat) : Int); omega, by show z.toNat ≤ 65521; omega⟩
  · cases h
end Go.Proofs.Ytpigpikhjlmdoaa

/- Walks of the reference of layer 13: rows of residues, products. -/
namespace Go.Proofs.Ytpigpikhjlmdoaa
open Go.Hp
open Go.Fq (Pm Fp Prm)
variable {G : World} {U U' : UH} {M : MH}

end Go.Proofs.Ytpigpikhjlmdoaa

/- Walks of the reference of layer 13: products, valid matrices. -/
namespace Go.Proofs.Ytpigpikhjlmdoaa
open Go.Hp
open Go.Fq (Pm Fp Prm)
variable {G : World} {U U' : UH} {M : MH}

theorem z13Valid_ct {r c : Int} {p : Option Addr} {n cc : Nat} (_ : n ≤ 9223372036854775807) :
    Ct Try.prog 25 [.agg #[.int .i64 r, .int .i64 c, .slice p n cc]] G U M fun v U' D => v = .bool (decide (Vld r c n)) ∧ U = U' ∧ D = [] := by
  refine ct_of_st Try.func25 rfl rfl rfl rfl ?_
  repeat (first | refine run_S ?_ | refine w_box (fun _ => ?_) | refine w_al (fun _ => ?_))
  refine sl_gdec rfl rfl (fun h1 => ?_) (fun h1 => ?_)
  · repeat (first | refine run_S ?_ | refine w_box (fun _ => ?_) | refine w_al (fun _ => ?_))
    refine sl_gdec rfl rfl (fun h2 => ?_) (fun h2 => ?_)
    · repeat (first | refine run_S ?_ | refine w_box (fun _ => ?_) | refine w_al (fun _ => ?_))
      refine sl_gdec rfl rfl (fun h3 => ?_) (fun h3 => ?_)
      · repeat (first | refine run_S ?_ | refine w_box (fun _ => ?_) | refine w_al (fun _ => ?_))
        refine sl_gdec rfl rfl (fun h4 => ?_) (fun h4 => ?_)
        · have h5 := mul_1024 h1 h2 h3 h4
          repeat (first | refine run_S ?_ | refine w_box (fun _ => ?_) | refine w_al (fun _ => ?_))
          refine sk_ret [] sym rfl (.cons (.tmp rfl) .nil) uc sb (.inl rfl) ⟨?_, rfl, rfl⟩
          show Value.bool (dec ((n : Int) = r * c)) = _
          rw [dec_eq]
          exact congrArg Value.bool (decide_eq_decide.2 ⟨fun h => ⟨h1, h2, h3, h4, h⟩, fun h => h.2.2.2.2⟩)
        · repeat (first | refine run_S ?_ | refine w_box (fun _ => ?_) | refine w_al (fun _ => ?_))
          exact sk_ret [] sym rfl (.cons (.tmp rfl) .nil) uc sb (.inl rfl) ⟨tup_f (fun h => h4 h.2.2.2.1), rfl, rfl⟩
      · repeat (first | refine run_S ?_ | refine w_box (fun _ => ?_) | refine w_al (fun _ => ?_))
        exact sk_ret [] sym rfl (.cons (.tmp rfl) .nil) uc sb (.inl rfl) ⟨tup_f (fun h => h3 h.2.2.1), rfl, rfl⟩
    · repeat (first | refine run_S ?_ | refine w_box (fun _ => ?_) | refine w_al (fun _ => ?_))
      exact sk_ret [] sym rfl (.cons (.tmp rfl) .nil) uc sb (.inl rfl) ⟨tup_f (fun h => h2 h.2.1), rfl, rfl⟩
  · repeat (first | refine run_S ?_ | refine w_box (fun _ => ?_) | refine w_al (fun _ => ?_))
    exact sk_ret [] sym rfl (.cons (.tmp rfl) .nil) uc sb (.inl rfl) ⟨tup_f (fun h => h1 h.1), rfl, rfl⟩

/-- What 'light' tells of a matrix of integers. -/
theorem light13_ct {most m : Nat} {pl : Option Addr} {cl : Nat} {vs : List Value} {r c : Nat → Int} {n : Nat → Nat} {f : Nat → Nat → Int} (rl : RowAt U M 3 pl m vs) (hv : ∀ k v, vs[k]? = some v → RawO Vz 1 U v (r k) (c k) (n k) (f k)) (hm2 : m ≤ 100) :
    Ct Try.prog 26 [.int .i64 (most : Int), .slice pl m cl] G U M fun v U' D => ∃ b : Bool, v = .bool b ∧ (b = true ↔ ∀ k, k < m → Vld (r k) (c k) (n k) ∧ r k ≤ most ∧ c k ≤ most) ∧ U = U' ∧ D = [] := by
  refine ct_of_st Try.func26 rfl rfl rfl rfl ?_
  repeat (first | refine run_S ?_ | refine w_box (fun _ => ?_) | refine w_al (fun _ => ?_))
  try refine st_anti (M' := M) (ULe.refl _) sbk ?_
  refine st_loop (fun z E U' M' => ∃ (i : Nat), i ≤ m ∧ (∀ k, k < i → Vld (r k) (c k) (n k) ∧ r k ≤ most ∧ c k ≤ most) ∧ U = U' ∧ E = [(5, .int .i64 (i : Int)), (0, .int .i64 (most : Int)), (1, .slice pl m cl)] ∧ ULe U U' ∧ M' = M ∧ z = m - i) (n0 := m - 0) (E0 := [(5, .int .i64 ((0 : Nat) : Int)), (0, .int .i64 (most : Int)), (1, .slice pl m cl)]) ⟨rfl, rfl, rfl, trivial⟩ ⟨0, by omega, (fun k h => absurd h (Nat.not_lt_zero k)), rfl, rfl, uc, rfl, rfl⟩ ?_
  rintro z E U1 M' ⟨i, hi, hall, rfl, rfl, hU1, rfl, rfl⟩
  try refine run_s ?_
  refine st_dec rfl (fun h => ?_) (fun h => ?_)
  · have him : i < m := by omega
    obtain ⟨v1, hv1⟩ := rl.at him
    obtain ⟨hr, hc, hn, _, rfl, p1, c1, as1, rfl, -⟩ := hv _ _ hv1
    have hp := (rl.get _ _ hv1).1
    have no : ¬ (Vld (r i) (c i) (n i) ∧ r i ≤ most ∧ c i ≤ most) → ((false = true) ↔ ∀ k, k < m → Vld (r k) (c k) (n k) ∧ r k ≤ most ∧ c k ≤ most) := fun h => ⟨fun e => (by cases e), fun e => absurd (e i him) h⟩
    repeat (first | refine run_S ?_ | refine w_box (fun _ => ?_) | refine w_al (fun _ => ?_))
    refine sl_y (yl_index sym rfl rfl rfl rfl rfl rfl (rl.lt hv1) (rl.get _ _ hv1).1) rfl rfl rfl rfl ?_; refine sl_y (yl_loadRs sym rfl rfl rfl rfl rfl rl hv1) rfl rfl rfl rfl ?_
    repeat (first | refine run_S ?_ | refine w_box (fun _ => ?_) | refine w_al (fun _ => ?_))
    refine sl_call rfl rfl rfl rfl rfl rfl (fun _ => z13Valid_ct (r := r i) (c := c i) (p := p1) (cc := c1) hn) ?_
    rintro v U' D hU ⟨rfl, rfl, rfl⟩
    repeat (first | refine run_S ?_ | refine w_box (fun _ => ?_) | refine w_al (fun _ => ?_))
    by_cases hV : Vld (r i) (c i) (n i)
    · rw [decide_eq_true hV]
      repeat (first | refine run_S ?_ | refine w_box (fun _ => ?_) | refine w_al (fun _ => ?_))
      refine w_addr (j := i) him hp ?_
      repeat (first | refine run_S ?_ | refine w_box (fun _ => ?_) | refine w_al (fun _ => ?_))
      refine sl_y (yl_loadRc (j := 0) (u := .int .i64 (r i)) sym rfl rfl (by rw [elt_add]) rfl rfl rl hv1 rfl) rfl rfl rfl rfl ?_
      repeat (first | refine run_S ?_ | refine w_box (fun _ => ?_) | refine w_al (fun _ => ?_))
      refine sl_gdec rfl rfl (fun h2 => ?_) (fun h2 => ?_)
      · repeat (first | refine run_S ?_ | refine w_box (fun _ => ?_) | refine w_al (fun _ => ?_))
        exact sk_ret [] sym rfl (.cons (.tmp rfl) .nil) uc sb (.inl rfl) ⟨false, rfl, no (fun h => by omega), rfl, rfl⟩
      · repeat (first | refine run_S ?_ | refine w_box (fun _ => ?_) | refine w_al (fun _ => ?_))
        refine w_addr (j := i) him hp ?_
        repeat (first | refine run_S ?_ | refine w_box (fun _ => ?_) | refine w_al (fun _ => ?_))
        refine sl_y (yl_loadRc (j := 1) (u := .int .i64 (c i)) sym rfl rfl (by rw [elt_add]) rfl rfl rl hv1 rfl) rfl rfl rfl rfl ?_
        repeat (first | refine run_S ?_ | refine w_box (fun _ => ?_) | refine w_al (fun _ => ?_))
        refine st_dec rfl (fun h3 => ?_) (fun h3 => ?_)
        · repeat (first | refine run_S ?_ | refine w_box (fun _ => ?_) | refine w_al (fun _ => ?_))
          exact sk_ret [] sym rfl (.cons (.tmp rfl) .nil) uc sb (.inl rfl) ⟨false, rfl, no (fun h => by omega), rfl, rfl⟩
        · repeat (first | refine run_S ?_ | refine w_box (fun _ => ?_) | refine w_al (fun _ => ?_))
          exact sk_again (E' := [(5, .int .i64 ((i : Int) + 1)), (0, .int .i64 (most : Int)), (1, .slice pl m cl)]) (m := m - (i + 1)) ⟨rfl, rfl, rfl, trivial⟩ (by omega) ⟨i + 1, by omega, (fun k hk => by
            rcases Nat.lt_or_eq_of_le (Nat.le_of_lt_succ hk) with h5 | h5
            · exact hall k h5
            · rw [h5]; exact ⟨hV, by omega, by omega⟩), rfl, rfl, uc, rfl, rfl⟩
    · rw [decide_eq_false hV]
      repeat (first | refine run_S ?_ | refine w_box (fun _ => ?_) | refine w_al (fun _ => ?_))
      exact sk_ret [] sym rfl (.cons (.tmp rfl) .nil) uc sb (.inl rfl) ⟨false, rfl, no (fun h => hV h.1), rfl, rfl⟩
  · obtain rfl : i = m := by omega
    repeat (first | refine run_S ?_ | refine w_box (fun _ => ?_) | refine w_al (fun _ => ?_))
    exact sk_ret [] sym rfl (.cons (.tmp rfl) .nil) uc sb (.inl rfl) ⟨true, rfl, ⟨fun _ => hall, fun _ => rfl⟩, rfl, rfl⟩
theorem RawO.vmz {v : Value} {r c : Int} {n : Nat} {f : Nat → Int} (h : RawO Vz 1 U v r c n f) (hV : Vld r c n) : ∃ R C : Nat, r = (R : Int) ∧ c = (C : Int) ∧ n = R * C ∧ Vmz Vz R C U v (fun i j => f (i * C + j)) := by
  obtain ⟨-, -, -, a, rfl, ha⟩ := h
  obtain ⟨k1, k2, k3, k4, k5⟩ := hV
  obtain ⟨R, rfl⟩ : ∃ R : Nat, r = (R : Int) := ⟨r.toNat, by omega⟩
  obtain ⟨C, rfl⟩ : ∃ C : Nat, c = (C : Int) := ⟨c.toNat, by omega⟩
  obtain rfl : n = R * C := by rw [← Int.natCast_mul] at k5; omega
  exact ⟨R, C, rfl, rfl, rfl, a, rfl, ha.congr fun k _ => by show _ = f (k / C * C + k % C); rw [Nat.mul_comm, Nat.div_add_mod]⟩
end Go.Proofs.Ytpigpikhjlmdoaa

/- Walks of the reference of layer 13: echelon forms. -/
namespace Go.Proofs.Ytpigpikhjlmdoaa
open Go.Hp
open Go.Fq (Pm Fp Prm)
variable {G : World} {U U' : UH} {M : MH}

/-- The row that is the pivot, or none yet. -/
inductive Piv (P : Pm) (n i : Nat) (U : UH) (A : Nat → Nat → Fp P) (c : Nat) : Option Addr → Nat → Nat → Nat → List Value → Prop where
  | none {us : List Value} : (∀ u, u < i → A u c = 0) → El (Vrs (Vf P) n) U us A → Piv P n i U A c none 0 0 i us
  | some {a : Addr} {cq t k : Nat} {Q : Nat → Fp P} {us : List Value} : t < i → k + 1 = i → A t c ≠ 0 → Vrs (Vf P) n U (.slice (some a) n cq) Q → (∀ j, j < n → Q j = (A t c)⁻¹ * A t j) → El (Vrs (Vf P) n) U us (fun s => A (La.skip t s)) → Piv P n i U A c (some a) n cq k us
theorem Piv.up {P : Pm} {n i c n' c' k : Nat} {A : Nat → Nat → Fp P} {p : Option Addr} {us : List Value} (h : Piv P n i U A c p n' c' k us) (hU : ULe U U') : Piv P n i U' A c p n' c' k us := by
  cases h with
  | none h1 h2 => exact .none h1 (h2.up KeptC.out hU)
  | some h1 h2 h3 h4 h5 h6 => exact .some h1 h2 h3 (KeptC.out _ _ _ _ hU h4) h5 (h6.up KeptC.out hU)

end Go.Proofs.Ytpigpikhjlmdoaa

/- Walks of the reference of layer 13: kernels. -/
namespace Go.Proofs.Ytpigpikhjlmdoaa
open Go.Hp
open Go.Fq (Pm Fp Prm)
variable {G : World} {U U' : UH} {M M' : MH}

theorem sk_setAll {K : Kont} {N : Nat} {e : Exit} {E : Env} {D M : MH} (h : ∀ U', ULe U U' → Sett U U' D → SK K N G e E U' M) : SK K N G e E U (D ++ M) :=
  ⟨fun a w ha hw => by
    obtain ⟨U', h1, h2, h3⟩ := mem_settleAll hw
    exact (h U' h1 h3).run a w ha h2⟩

end Go.Proofs.Ytpigpikhjlmdoaa
