/- Walks of modmatrix: remainders put together. -/
import Derived.Test.YtpigpikhjlmdoaaB161
import Derived.Test.YtpigpikhjlmdoaaM10
import Derived.Test.YtpigpikhjlmdoaaB38
import Derived.Test.YtpigpikhjlmdoaaCl
namespace Go.Proofs.Ytpigpikhjlmdoaa
open Go.Hp
variable {G : World} {U U' : UH} {M : MH}

theorem Xgcd_st {x y : IV} {z w : Int} (hx : x.rep U M z) (hn : x.n ≤ 274877906944) (hy : y.rep U M w) (hn' : y.n ≤ 274877906944) (hw : 1 ≤ w) (hg : Int.gcd z w = 1) :
    Ct Try.prog 93 [x.v, y.v] G U M fun v U' D => ∃ (g u t : IV) (zu : Int), v = .tuple #[g.v, u.v, t.v] ∧ D = [] ∧ u.nrm U' [] zu ∧ w ∣ zu * z - 1 ∧ 0 ≤ zu ∧ zu < w :=
  (Xgcd_ct hx hn hy hn').settle.mono fun _ _ _ _ ⟨h1, _, _, ⟨g, u, t, zu, zt, Dg, Du, Dt, h2, h3, _, h4, _, _, h5, _⟩, _, _, hs⟩ => by
    subst h3
    obtain ⟨h6, k, h7⟩ := h5 (by omega)
    rw [hg] at h6 h7
    rw [show w / ((1 : Nat) : Int) = w from Int.ediv_one w] at h7
    refine ⟨g, u, t, zu, h2, h1, h4.sett hs.right.left, ⟨-zt, ?_⟩, ?_, ?_⟩
    · rw [Int.mul_neg, Int.mul_comm w zt]
      omega
    · rw [h7]; exact Int.emod_nonneg _ (by omega)
    · rw [h7]; exact Int.emod_lt_of_pos _ (by omega)

theorem combined_ct {x a r b : IV} {X A R B : Int} {k : Nat} (hk : k ≤ 900) (hx : x.rep U [] X) (sx : Sz X k) (hxn : x.n ≤ k) (ha : a.rep U [] A) (sa : Sz A k) (han : a.n ≤ k) (hr : r.rep U [] R) (sr : Sz R k) (hrn : r.n ≤ k) (hb : b.rep U [] B) (sB : Sz B k) (hbn : b.n ≤ k) (hB : 1 ≤ B) (hg : Int.gcd A B = 1) :
    Ct Try.prog 53 [x.v, a.v, r.v, b.v] G U M fun v U' D => ∃ (o : IV) (u : Int), v = o.v ∧ D = [] ∧ B ∣ u * A - 1 ∧ o.nrm U' [] (X + A * (((R - X) * u) % B)) := by
  refine ct_of_st Try.func53 rfl rfl rfl rfl ?_
  repeat (first | refine run_S ?_ | refine w_box (fun _ => ?_) | refine w_al (fun _ => ?_))
  refine sl_call rfl rfl rfl rfl rfl rfl (fun _ => Xgcd_st (ha.up uc sb) (by omega) (hb.up uc sb) (by omega) hB hg) ?_
  rintro v1 U1 D1 hU1 ⟨g1, xu, t1, u, rfl, rfl, hu, h1, h2, h3⟩
  try rw [List.nil_append]
  repeat (first | refine run_S ?_ | refine w_box (fun _ => ?_) | refine w_al (fun _ => ?_))
  have su : Sz u k := sz_le sB (by omega)
  refine st_drawM [13, 14, 15] [0, 1, 3, 5, 2, 4, 6, 7, 8, 9, 10, 11, 12, 13, 14, 15] sym (by kernel_rfl) ?_
  repeat (first | refine run_S ?_ | refine w_box (fun _ => ?_) | refine w_al (fun _ => ?_))
  refine sl_call rfl rfl rfl rfl rfl rfl (fun _ => (Sub_ct (hr.up uc sb) (by omega) (hx.up uc sb) (by omega)).settle) ?_
  rintro v Uh4 D hU ⟨rfl, _, _, ⟨xh4, rfl, h4, -⟩, -, -, hs⟩
  replace h4 := h4.sett hs
  clear hs
  repeat (first | refine run_S ?_ | refine w_box (fun _ => ?_) | refine w_al (fun _ => ?_))
  have s4 := sr.sub sx
  refine sl_call rfl rfl rfl rfl rfl rfl (fun _ => (Mul_ct (h4.rep.up uc sb) (h4.le (s4) (by omega)) (hu.rep.up uc sb) (hu.le (su) (by omega))).settle) ?_
  rintro v Uh5 D hU ⟨rfl, _, _, ⟨xh5, rfl, h5, -⟩, -, -, hs⟩
  replace h5 := h5.sett hs
  clear hs
  repeat (first | refine run_S ?_ | refine w_box (fun _ => ?_) | refine w_al (fun _ => ?_))
  have s5 := s4.mul su
  refine sl_call rfl rfl rfl rfl rfl rfl (fun _ => DivMod_st (h5.rep.up uc sb) (h5.le s5 (by omega)) (hb.up uc sb) (by omega) (by omega)) ?_
  rintro v6 U6 D6 hU6 ⟨xq6, xr6, rfl, -, h6, rfl⟩
  try rw [List.nil_append]
  repeat (first | refine run_S ?_ | refine w_box (fun _ => ?_) | refine w_al (fun _ => ?_))
  refine st_drawM [4, 5] [0, 1, 2, 3, 4, 5] sym (by kernel_rfl) ?_
  repeat (first | refine run_S ?_ | refine w_box (fun _ => ?_) | refine w_al (fun _ => ?_))
  have s6 : Sz ((R - X) * u % B) k := sB.mod (by omega) _
  refine sl_call rfl rfl rfl rfl rfl rfl (fun _ => (Mul_ct (ha.up uc sb) (by omega) (h6.rep.up uc sb) (h6.le (s6) (by omega))).settle) ?_
  rintro v Uh7 D hU ⟨rfl, _, _, ⟨xh7, rfl, h7, -⟩, -, -, hs⟩
  replace h7 := h7.sett hs
  clear hs
  repeat (first | refine run_S ?_ | refine w_box (fun _ => ?_) | refine w_al (fun _ => ?_))
  have s7 := sa.mul s6
  refine sl_call rfl rfl rfl rfl rfl rfl (fun _ => (Add_ct (hx.up uc sb) (by omega) (h7.rep.up uc sb) (h7.le (s7) (by omega))).settle) ?_
  rintro v Uh8 D hU ⟨rfl, _, _, ⟨xh8, rfl, h8, -⟩, -, -, hs⟩
  replace h8 := h8.sett hs
  clear hs
  repeat (first | refine run_S ?_ | refine w_box (fun _ => ?_) | refine w_al (fun _ => ?_))
  exact sk_ret [] sym rfl (.cons (.cell 5 rfl rfl rfl) .nil) uc sb (.inl rfl) ⟨xh8, u, rfl, rfl, h1, h8⟩
end Go.Proofs.Ytpigpikhjlmdoaa
