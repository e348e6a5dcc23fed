/- Texts of this seat's own, merged: each begins with its own remark. -/
import Derived.Test.YtpigpikhjlmdoaaGreatM43
import Derived.Test.YtpigpikhjlmdoaaGreatM10
import Derived.Test.YtpigpikhjlmdoaaGreatB38
import Derived.Test.YtpigpikhjlmdoaaGreatM40
import Derived.Test.YtpigpikhjlmdoaaGreatM2
import Derived.Test.YtpigpikhjlmdoaaGreatM4
import Derived.Test.YtpigpikhjlmdoaaGreatM19
import Derived.Test.YtpigpikhjlmdoaaGreatM15
import Derived.Test.YtpigpikhjlmdoaaGreatM5
/- Walks of modmatrix: remainders put together. -/
namespace Go.Proofs.YtpigpikhjlmdoaaGreat
open Go.Hp
variable {G : World} {U U' : UH} {M : MH}

theorem Xgcd_st {x y : IV} {z w : Int} (hx : x.rep U M z) (hn : x.n ≤ 274877906944) (hy : y.rep U M w) (hn' : y.n ≤ 274877906944) (hw : 1 ≤ w) (hg : Int.gcd z w = 1) :
    Ct Tryz.prog 124 [x.v, y.v] G U M fun v U' D => ∃ (g u t : IV) (zu : Int), v = .tuple #[g.v, u.v, t.v] ∧ D = [] ∧ u.nrm U' [] zu ∧ w ∣ zu * z - 1 ∧ 0 ≤ zu ∧ zu < w :=
  (Xgcd_ct hx hn hy hn').settle.mono fun _ _ _ _ ⟨h1, _, _, ⟨g, u, t, zu, zt, Dg, Du, Dt, h2, h3, _, h4, _, _, h5, _⟩, _, _, hs⟩ => by
    subst h3
    obtain ⟨h6, k, h7⟩ := h5 (by omega)
    rw [hg] at h6 h7
    rw [show w / ((1 : Nat) : Int) = w from Int.ediv_one w] at h7
    refine ⟨g, u, t, zu, h2, h1, h4.sett hs.right.left, ⟨-zt, ?_⟩, ?_, ?_⟩
    · rw [Int.mul_neg, Int.mul_comm w zt]
      omega
    · rw [h7]; exact Int.emod_nonneg _ (by omega)
    · rw [h7]; exact Int.emod_lt_of_pos _ (by omega)

theorem combined_ct {x a r b : IV} {X A R B : Int} {k : Nat} (hk : k ≤ 900) (hx : x.rep U [] X) (sx : Sz X k) (hxn : x.n ≤ k) (ha : a.rep U [] A) (sa : Sz A k) (han : a.n ≤ k) (hr : r.rep U [] R) (sr : Sz R k) (hrn : r.n ≤ k) (hb : b.rep U [] B) (sB : Sz B k) (hbn : b.n ≤ k) (hB : 1 ≤ B) (hg : Int.gcd A B = 1) :
    Ct Tryz.prog 75 [x.v, a.v, r.v, b.v] G U M fun v U' D => ∃ (o : IV) (u : Int), v = o.v ∧ D = [] ∧ B ∣ u * A - 1 ∧ o.nrm U' [] (X + A * (((R - X) * u) % B)) := by
  refine ct_of_st Tryz.func75 rfl rfl rfl rfl ?_
  repeat (first | refine run_S ?_ | refine w_box (fun _ => ?_) | refine w_al (fun _ => ?_))
  refine sl_call rfl rfl rfl rfl rfl rfl (fun _ => Xgcd_st (ha.up uc sb) (by omega) (hb.up uc sb) (by omega) hB hg) ?_
  rintro v1 U1 D1 hU1 ⟨g1, xu, t1, u, rfl, rfl, hu, h1, h2, h3⟩
  try rw [List.nil_append]
  repeat (first | refine run_S ?_ | refine w_box (fun _ => ?_) | refine w_al (fun _ => ?_))
  have su : Sz u k := sz_le sB (by omega)
  refine st_drawM [13, 14, 15] [0, 1, 3, 5, 2, 4, 6, 7, 8, 9, 10, 11, 12, 13, 14, 15] sym (by kernel_rfl) ?_
  repeat (first | refine run_S ?_ | refine w_box (fun _ => ?_) | refine w_al (fun _ => ?_))
  refine sl_call rfl rfl rfl rfl rfl rfl (fun _ => (Sub_ct (hr.up uc sb) (by omega) (hx.up uc sb) (by omega)).settle) ?_
  rintro v Uh4 D hU ⟨rfl, _, _, ⟨xh4, rfl, h4, -⟩, -, -, hs⟩
  replace h4 := h4.sett hs
  clear hs
  repeat (first | refine run_S ?_ | refine w_box (fun _ => ?_) | refine w_al (fun _ => ?_))
  have s4 := sr.sub sx
  refine sl_call rfl rfl rfl rfl rfl rfl (fun _ => (Mul_ct (h4.rep.up uc sb) (h4.le (s4) (by omega)) (hu.rep.up uc sb) (hu.le (su) (by omega))).settle) ?_
  rintro v Uh5 D hU ⟨rfl, _, _, ⟨xh5, rfl, h5, -⟩, -, -, hs⟩
  replace h5 := h5.sett hs
  clear hs
  repeat (first | refine run_S ?_ | refine w_box (fun _ => ?_) | refine w_al (fun _ => ?_))
  have s5 := s4.mul su
  refine sl_call rfl rfl rfl rfl rfl rfl (fun _ => DivMod_st (h5.rep.up uc sb) (h5.le s5 (by omega)) (hb.up uc sb) (by omega) (by omega)) ?_
  rintro v6 U6 D6 hU6 ⟨xq6, xr6, rfl, -, h6, rfl⟩
  try rw [List.nil_append]
  repeat (first | refine run_S ?_ | refine w_box (fun _ => ?_) | refine w_al (fun _ => ?_))
  refine st_drawM [4, 5] [0, 1, 2, 3, 4, 5] sym (by kernel_rfl) ?_
  repeat (first | refine run_S ?_ | refine w_box (fun _ => ?_) | refine w_al (fun _ => ?_))
  have s6 : Sz ((R - X) * u % B) k := sB.mod (by omega) _
  refine sl_call rfl rfl rfl rfl rfl rfl (fun _ => (Mul_ct (ha.up uc sb) (by omega) (h6.rep.up uc sb) (h6.le (s6) (by omega))).settle) ?_
  rintro v Uh7 D hU ⟨rfl, _, _, ⟨xh7, rfl, h7, -⟩, -, -, hs⟩
  replace h7 := h7.sett hs
  clear hs
  repeat (first | refine run_S ?_ | refine w_box (fun _ => ?_) | refine w_al (fun _ => ?_))
  have s7 := sa.mul s6
  refine sl_call rfl rfl rfl rfl rfl rfl (fun _ => (Add_ct (hx.up uc sb) (by omega) (h7.rep.up uc sb) (h7.le (s7) (by omega))).settle) ?_
  rintro v Uh8 D hU ⟨rfl, _, _, ⟨xh8, rfl, h8, -⟩, -, -, hs⟩
  replace h8 := h8.sett hs
  clear hs
  repeat (first | refine run_S ?_ | refine w_box (fun _ => ?_) | refine w_al (fun _ => ?_))
  exact sk_ret [] sym rfl (.cons (.cell 5 rfl rfl rfl) .nil) uc sb (.inl rfl) ⟨xh8, u, rfl, rfl, h1, h8⟩
end Go.Proofs.YtpigpikhjlmdoaaGreat

/- Remainders put together one after another: what both ways of doing so agree on. No condition. -/
namespace Go.Fq

/-- After i remainders. -/
inductive Ch (r m : Nat → Int) : Nat → Int → Int → Prop where
  | zero : Ch r m 0 0 1
  | succ {i : Nat} {x M u : Int} : Ch r m i x M → 1 ≤ m i → Int.gcd M (m i) = 1 → m i ∣ u * M - 1 → Ch r m (i + 1) (x + M * (((r i - x) * u) % m i)) (M * m i)
variable {r m : Nat → Int} {i j : Nat} {x M : Int}
/-- The outcome: OK, a modulus out of range, a modulus not coprime to those before it. -/
inductive Out (r m : Nat → Int) (n : Nat) : Int → Int → Int → Prop where
  | ok {x M : Int} : Ch r m n x M → Out r m n x M 0
  | range {i : Nat} {x M : Int} : i < n → Ch r m i x M → m i < 1 → Out r m n 0 0 2
  | coprime {i : Nat} {x M : Int} : i < n → Ch r m i x M → 1 ≤ m i → Int.gcd M (m i) ≠ 1 → Out r m n 0 0 9
/-- What Euclid's algorithm ends with. -/
theorem Eu.fin {a m g u w e : Int} (h : Eu (a % m) m g 0 u w e) : (g = 1 → Int.gcd a m = 1 ∧ m ∣ (u % m) * a - 1) ∧ (g ≠ 1 → Int.gcd a m ≠ 1) := by
  have ha : m ∣ a - a % m := Int.dvd_self_sub_emod
  constructor
  · rintro rfl
    have hd : ((Int.gcd a m : Nat) : Int) ∣ 1 := by
      have h1 := Int.gcd_dvd_left a m
      have h2 := Int.gcd_dvd_right a m
      have h3 : ((Int.gcd a m : Nat) : Int) ∣ a % m := by
        have := Int.dvd_sub h1 (Int.dvd_trans h2 ha)
        rwa [show a - (a - a % m) = a % m by omega] at this
      have := Int.dvd_add (Int.dvd_trans h2 h.cg) (show _ ∣ u * (a % m) from Int.dvd_mul_of_dvd_right h3)
      rwa [Int.sub_add_cancel] at this
    refine ⟨by have := Int.le_of_dvd (by decide) hd; have h0 : Int.gcd a m ≠ 0 := fun e => by rw [e] at hd; exact absurd (Int.zero_dvd.1 hd) (by decide)
               omega, ?_⟩
    have hu : m ∣ u - u % m := Int.dvd_self_sub_emod
    have e1 : (u % m) * a - 1 = u * (a - a % m) - (1 - u * (a % m)) - (u - u % m) * a := by
      rw [Int.mul_sub, Int.sub_mul]
      omega
    rw [e1]
    exact Int.dvd_sub (Int.dvd_sub (Int.dvd_mul_of_dvd_right ha) h.cg) (Int.dvd_mul_of_dvd_left hu)
  · intro h1 h2
    obtain ⟨k1, k2⟩ := h.dv g (Int.dvd_refl g) (Int.dvd_zero g)
    have k3 : g ∣ a := by
      have := Int.dvd_add (Int.dvd_trans k2 ha) k1
      rwa [Int.sub_add_cancel] at this
    have k4 : g ∣ ((Int.gcd a m : Nat) : Int) := Int.dvd_coe_gcd k3 k2
    rw [h2] at k4
    have := Int.le_of_dvd (by decide) k4
    have h0 := h.g1
    have : g ≠ 0 := fun e => by subst e; exact absurd (Int.zero_dvd.1 k4) (by decide)
    omega
end Go.Fq
namespace Go.Proofs.YtpigpikhjlmdoaaGreat
open Go.Hp Go.Fq
variable {r m : Nat → Int} {i : Nat} {x M : Int}
end Go.Proofs.YtpigpikhjlmdoaaGreat

/- Walks of modmatrix: the Chinese remainders. -/
namespace Go.Proofs.YtpigpikhjlmdoaaGreat
open Go.Hp Go.Fq
variable {G : World} {U U' : UH} {M : MH}

/-- An integer of any form, of at most s digits. -/
def Xw (s : Nat) (U : UH) (v : Value) (z : Int) : Prop := ∃ x : IV, v = x.v ∧ x.rep U [] z ∧ x.n ≤ s
theorem kept_xw {s : Nat} : Kept (Xw s) := fun _ _ _ _ hU ⟨x, h1, h2, h3⟩ => ⟨x, h1, h2.up hU (List.Sublist.refl _), h3⟩
theorem zeroIV_nrm : zeroIV.nrm U [] 0 := zeroIV0_own.at (List.nil_sublist _)

end Go.Proofs.YtpigpikhjlmdoaaGreat

/- Walks of the reference of layer 13: inverses modulo an integer. -/
namespace Go.Proofs.YtpigpikhjlmdoaaGreat
open Go.Hp Go.Fq
variable {G : World} {U U' : UH} {M : MH}

end Go.Proofs.YtpigpikhjlmdoaaGreat

/- Walks of the reference of layer 13: the Chinese remainders. -/
namespace Go.Proofs.YtpigpikhjlmdoaaGreat
open Go.Hp Go.Fq
variable {G : World} {U U' : UH} {M : MH}

end Go.Proofs.YtpigpikhjlmdoaaGreat
