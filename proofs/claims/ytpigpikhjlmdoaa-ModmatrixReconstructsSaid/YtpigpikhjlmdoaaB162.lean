/- Walks of the reference of layer 13: rational reconstruction. -/
import Derived.Test.YtpigpikhjlmdoaaB161
import Derived.Test.YtpigpikhjlmdoaaM7
import Derived.Test.YtpigpikhjlmdoaaM9
import Derived.Test.YtpigpikhjlmdoaaM15
namespace Go.Proofs.Ytpigpikhjlmdoaa
open Go.Hp
variable {G : World} {U U' : UH} {M : MH}

theorem rEuclid_st {x y : IV} {z u : Int} (hx : x.rep U M z) (hn : x.n ≤ 274877906944) (hy : y.rep U M u) (hn' : y.n ≤ 274877906944) (hu : u ≠ 0) :
    Ct Try.prog 15 [x.v, y.v] G U M fun v U' D => ∃ q r : IV, v = .tuple #[q.v, r.v] ∧ q.nrm U' [] (z / u) ∧ r.nrm U' [] (z % u) ∧ D = [] :=
  (rEuclid_ct hx hn hy hn' hu).settle.mono fun _ _ _ _ ⟨h1, _, _, ⟨q, r, Dq, Dr, h2, h3, h4, h5, _⟩, _, _, hs⟩ => by
    subst h3
    exact ⟨q, r, h2, h4.sett hs.right, h5.sett hs.left, h1⟩
theorem z13Limit_ct {y : IV} {m : Int} (hy : y.rep U [] m) (hn' : y.n ≤ 900) (hm : 1 ≤ m) :
    Ct Try.prog 19 [y.v] G U M fun v U' D => ∃ (r : IV) (R : Nat), v = r.v ∧ r.nrm U' [] (R : Int) ∧ R * R ≤ ((m - 1) / 2).natAbs ∧ ((m - 1) / 2).natAbs < (R + 1) * (R + 1) ∧ D = [] := by
  have sm := hy.sz (Nat.le_refl _)
  have s1 : Sz (1 : Int) 1 := by unfold Sz; decide
  have s2 : Sz (2 : Int) 1 := by unfold Sz; decide
  refine ct_of_st Try.func19 rfl rfl rfl rfl ?_
  repeat (first | refine run_S ?_ | refine w_box (fun _ => ?_) | refine w_al (fun _ => ?_))
  refine st_drawM [10, 11] [0, 1, 2, 3, 4, 5, 6, 7, 8, 9, 10, 11] sym (by kernel_rfl) ?_
  repeat (first | refine run_S ?_ | refine w_box (fun _ => ?_) | refine w_al (fun _ => ?_))
  refine sl_call rfl rfl rfl rfl rfl rfl (fun _ => (rOf_ct (z := 1) (by decide) (by decide)).settle) ?_
  rintro v Uh1 D hU ⟨rfl, _, _, ⟨xh1, rfl, h1, -⟩, -, -, hs⟩
  replace h1 := h1.sett hs
  clear hs
  repeat (first | refine run_S ?_ | refine w_box (fun _ => ?_) | refine w_al (fun _ => ?_))
  refine sl_call rfl rfl rfl rfl rfl rfl (fun _ => (rSub_ct (hy.up uc sb) (by omega) (h1.rep.up uc sb) (h1.le (s1) (by omega))).settle) ?_
  rintro v Uh3 D hU ⟨rfl, _, _, ⟨xh3, rfl, h3, -⟩, -, -, hs⟩
  replace h3 := h3.sett hs
  clear hs
  repeat (first | refine run_S ?_ | refine w_box (fun _ => ?_) | refine w_al (fun _ => ?_))
  refine sl_call rfl rfl rfl rfl rfl rfl (fun _ => (rOf_ct (z := 2) (by decide) (by decide)).settle) ?_
  rintro v Uh2 D hU ⟨rfl, _, _, ⟨xh2, rfl, h2, -⟩, -, -, hs⟩
  replace h2 := h2.sett hs
  clear hs
  repeat (first | refine run_S ?_ | refine w_box (fun _ => ?_) | refine w_al (fun _ => ?_))
  have hm1 : (m - 1).natAbs ≤ m.natAbs := by omega
  refine sl_call rfl rfl rfl rfl rfl rfl (fun _ => rEuclid_st (h3.rep.up uc sb) (h3.le (sz_le sm hm1) (by omega)) (h2.rep.up uc sb) (h2.le s2 (by omega)) (by decide)) ?_
  rintro v4 U4 D4 hU4 ⟨xq4, xr4, rfl, h4, -, rfl⟩
  try rw [List.nil_append]
  repeat (first | refine run_S ?_ | refine w_box (fun _ => ?_) | refine w_al (fun _ => ?_))
  have hh : 0 ≤ (m - 1) / 2 ∧ ((m - 1) / 2).natAbs ≤ m.natAbs := by omega
  obtain ⟨A, hA⟩ : ∃ A : Nat, (m - 1) / 2 = (A : Int) := ⟨((m - 1) / 2).toNat, by omega⟩
  rw [hA] at h4
  refine sl_call rfl rfl rfl rfl rfl rfl (fun _ => (rRoot_ct (A := A) (h4.rep.up uc sb) (h4.le (k := 900) ((sz_le sm (by omega)).mono hn') (by omega))).settle) ?_
  rintro v5 U5 D5 hU5 ⟨rfl, _, _, ⟨r, R, rfl, h5, h6, h7, -⟩, -, -, hs⟩
  have h8 := h5.sett hs
  rw [List.nil_append]
  repeat (first | refine run_S ?_ | refine w_box (fun _ => ?_) | refine w_al (fun _ => ?_))
  exact sk_ret [] sym rfl (.cons (.cell 2 rfl rfl rfl) .nil) uc sb (.inl rfl) ⟨r, R, rfl, h8, by rw [hA, Int.natAbs_natCast]; exact h6, by rw [hA, Int.natAbs_natCast]; exact h7, rfl⟩

theorem z3Gcd_ct {a b : Nat} (ha : a ≤ 4611686018427387904) (hb : b ≤ 4611686018427387904) :
    Ct Try.prog 50 [.int .i64 (a : Int), .int .i64 (b : Int)] G U M fun v U' D => v = .int .i64 ((Nat.gcd a b : Nat) : Int) ∧ U = U' ∧ D = [] := by
  refine ct_of_st Try.func50 rfl rfl rfl rfl ?_
  repeat (first | refine run_S ?_ | refine w_box (fun _ => ?_) | refine w_al (fun _ => ?_))
  refine st_dec rfl (fun h => absurd h (by omega)) (fun _ => ?_)
  repeat (first | refine run_S ?_ | refine w_box (fun _ => ?_) | refine w_al (fun _ => ?_))
  refine st_dec rfl (fun h => absurd h (by omega)) (fun _ => ?_)
  repeat (first | refine run_S ?_ | refine w_box (fun _ => ?_) | refine w_al (fun _ => ?_))
  try refine st_anti (M' := M) (ULe.refl _) sbk ?_
  refine st_loop (fun z E U' M' => ∃ (x y : Nat), Nat.gcd x y = Nat.gcd a b ∧ x ≤ 4611686018427387904 ∧ y ≤ 4611686018427387904 ∧ U = U' ∧ E = [(5, .int .u64 (x : Int)), (6, .int .u64 (y : Int))] ∧ ULe U U' ∧ M' = M ∧ z = y) (n0 := b) (E0 := [(5, .int .u64 ((a : Nat) : Int)), (6, .int .u64 ((b : Nat) : Int))]) ⟨rfl, rfl, trivial⟩ ⟨a, b, rfl, ha, hb, rfl, rfl, uc, rfl, rfl⟩ ?_
  rintro z E U1 M' ⟨x, y, hg, hx, hy, rfl, rfl, hU1, rfl, hzL⟩
  try refine run_s ?_
  refine st_dec rfl (fun h => ?_) (fun h => ?_)
  · have hy0 : 0 < y := by omega
    have hlt := Nat.mod_lt x hy0
    try refine run_s ?_
    refine sl_y (yl_remN (k := .u64) (m := x) (n := y) rfl rfl rfl rfl rfl (by simp only [kmax]; omega) hy0 rfl) rfl rfl rfl rfl ?_
    try refine run_s ?_
    exact sk_again (E' := [(5, .int .u64 ((y : Nat) : Int)), (6, .int .u64 ((x % y : Nat) : Int))]) (m := (x % y)) ⟨rfl, rfl, trivial⟩ (by omega) ⟨y, x % y, by rw [Nat.gcd_comm, ← Nat.gcd_rec, Nat.gcd_comm]; exact hg, hy, by omega, rfl, rfl, uc, rfl, rfl⟩
  · have hy0 : y = 0 := by omega
    subst hy0
    rw [Nat.gcd_zero_right] at hg
    try refine run_s ?_
    refine st_dec rfl (fun h => absurd h (by omega)) (fun _ => ?_)
    try refine run_s ?_
    exact sk_ret [] sym rfl (.cons (.tmp rfl) .nil) uc sb (.inl rfl) ⟨by rw [← hg]; rfl, rfl, rfl⟩
end Go.Proofs.Ytpigpikhjlmdoaa
