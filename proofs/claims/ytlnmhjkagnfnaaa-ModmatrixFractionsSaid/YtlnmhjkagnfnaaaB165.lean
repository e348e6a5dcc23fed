/- Walks of the helpers of layer 13's statements: awake. -/
import Derived.Test.YtlnmhjkagnfnaaaB164
namespace Go.Proofs.Ytlnmhjkagnfnaaa
open Go.Hp
open Go.Fq (Pm Fp Prm)
variable {G : World} {U U' : UH} {M : MH}

/-- A matrix of literals. -/
theorem lit_mat {b e r c : Nat} {l : List Int} (hr : ∀ z ∈ l, -9223372036854775808 ≤ z ∧ z ≤ 9223372036854775807) (hn : l.length = r * c) (hn2 : r * c ≤ 1000) (hM : [(b, .arr (l.map fun z => .int .i64 z), e)].Sublist M) :
    Vmm Vz r c U M (.agg #[.int .i64 (r : Int), .int .i64 (c : Int), .slice (some ⟨b, 0, none⟩) (r * c) (r * c)]) (fun i j => l.getD (i * c + j) 0) := by
  refine ⟨_, rfl, (lit_row hr hn hn2 hM).congr fun k hk => ?_⟩
  show _ = l.getD (k / c * c + k % c) 0
  rw [Nat.mul_comm, Nat.div_add_mod]

set_option maxRecDepth 100000 in
theorem awake13_ct : Ct Try.prog 4 [] G U M fun v U' D => v = .bool true ∧ ULe U U' ∧ D = [] := by
  have rng : ∀ l : List Int, (l.all fun z => decide (-9223372036854775808 ≤ z ∧ z ≤ 9223372036854775807)) = true → ∀ z ∈ l, -9223372036854775808 ≤ z ∧ z ≤ 9223372036854775807 := fun l h z hz => of_decide_eq_true (List.all_eq_true.1 h z hz)
  have s1 : Sz (51 : Int) 1 := by unfold Sz; decide
  have s2 : Sz (101 : Int) 1 := by unfold Sz; decide
  refine ct_of_st Try.func4 rfl rfl rfl rfl ?_
  repeat (first | refine run_S ?_ | refine w_box (fun _ => ?_) | refine w_al (fun _ => ?_))
  refine sl_bslice (vs := [.int .i64 1, .int .i64 1, .int .i64 2]) sym rfl rfl rfl rfl rfl rfl (all_size rfl) rfl rfl rfl rfl rfl rfl (fun b7 => ?_)
  repeat (first | refine run_S ?_ | refine w_box (fun _ => ?_) | refine w_al (fun _ => ?_))
  refine sl_call rfl rfl rfl rfl rfl rfl (fun _ => fKernel_ct (P := P3) (m := 3) (n := 1) (A := fun i j => ([1, 1, 2] : List Int).getD (i * 1 + j) 0) (lit_mat (r := 3) (c := 1) (l := [1, 1, 2]) (e := TInt) (rng _ rfl) rfl (by decide) sb) (by decide) (by decide) (by decide)) ?_
  rintro v2 U2 D2 hU2 ⟨s, R, q, vR, rfl, h2, rfl, hker, -⟩
  rw [List.nil_append]
  have hk2 : La.KerOf 3 1 s (Ofm P3 fun i _ => [1, 1, 2].getD i 0) R q := ⟨hker.ech, fun x => by
    rw [← hker.sp x]
    unfold La.Ker
    refine forall_congr' fun j => forall_congr' fun hj => ?_
    have : j = 0 := by omega
    subst this
    rfl⟩
  obtain ⟨rfl, hR⟩ := awake_ker hk2
  obtain ⟨_, rfl, pr, cr, rs, rfl, -⟩ := id h2
  repeat (first | refine run_S ?_ | refine w_box (fun _ => ?_) | refine w_al (fun _ => ?_))
  refine sl_call rfl rfl rfl rfl rfl rfl (fun _ => (bZ_ct (z := 51) (by decide) (by decide)).settle) ?_
  rintro v Uh3 D hU ⟨rfl, _, _, ⟨xh3, rfl, h3, -⟩, -, -, hs⟩
  replace h3 := h3.sett hs
  clear hs
  repeat (first | refine run_S ?_ | refine w_box (fun _ => ?_) | refine w_al (fun _ => ?_))
  refine sl_call rfl rfl rfl rfl rfl rfl (fun _ => (bZ_ct (z := 101) (by decide) (by decide)).settle) ?_
  rintro v Uh4 D hU ⟨rfl, _, _, ⟨xh4, rfl, h4, -⟩, -, -, hs⟩
  replace h4 := h4.sett hs
  clear hs
  repeat (first | refine run_S ?_ | refine w_box (fun _ => ?_) | refine w_al (fun _ => ?_))
  refine sl_call rfl rfl rfl rfl rfl rfl (fun _ => fRecon_ct (a := 51) (m := 101) (h3.rep.up uc (List.Sublist.refl _)) (h3.le s1 (by decide)) (h4.rep.up uc (List.Sublist.refl _)) (h4.le s2 (by decide))) ?_
  rintro v5 U5 D5 hU5 ⟨r, b, e, rfl, rfl, -, h6⟩
  try rw [List.nil_append]
  repeat (first | refine run_S ?_ | refine w_box (fun _ => ?_) | refine w_al (fun _ => ?_))
  obtain ⟨rfl, most, hR1, hR2, h7⟩ := h6 (by decide)
  obtain rfl : 7 = most := root_uniq (n := ((101 - 1) / 2 : Int).natAbs) (by decide) (by decide) hR1 hR2
  obtain ⟨rfl, hr⟩ : b = true ∧ r.nrm U5 [] (Rat.divInt 1 2) := by
    rcases h7 with ⟨-, -, h8⟩ | ⟨hb, n, d, k1, k2, k3, k4, k5, k6, k7⟩
    · exact absurd (by decide) (h8 1 2 (by decide) (by decide) (by decide) (by decide) (by decide))
    · obtain ⟨n', d', j1, j2, j3, j4, j5, j6, j7⟩ := recon_pos k1 k2 k3 k4 k5 k6
      refine ⟨hb, ?_⟩
      rw [j7, recon_same (most := 7) (m := 101) (a := 51) (n' := 1) (d' := 2) hR1 (by decide) j1 j2 j3 j4 j6 (by decide) (by decide) (by decide) (by decide) (by decide)] at k7
      exact k7
  try refine run_s ?_
  refine st_draw [0, 1, 2, 3, 4, 5, 6, 7, 8, 9, 10, 11, 12, 13, 14, 15, 16, 17, 18, 19, 20] sym (by kernel_rfl) ?_
  repeat (first | refine run_S ?_ | refine w_box (fun _ => ?_) | refine w_al (fun _ => ?_))
  refine sl_gdec rfl rfl (fun _ => ?_) (fun h => absurd rfl h)
  repeat (first | refine run_S ?_ | refine w_box (fun _ => ?_) | refine w_al (fun _ => ?_))
  refine sl_bslice (vs := [.int .i64 1, .int .i64 0, .int .i64 1, .int .i64 0, .int .i64 1, .int .i64 1]) sym rfl rfl rfl rfl rfl rfl (all_size rfl) rfl rfl rfl rfl rfl rfl (fun b8 => ?_)
  repeat (first | refine run_S ?_ | refine w_box (fun _ => ?_) | refine w_al (fun _ => ?_))
  refine sl_call rfl rfl rfl rfl rfl rfl (fun _ => bSameFMatrix_ct (ok1 := Vf P3) (ok2 := Vz) (fun x : Fp P3 => (x.v : Int)) id (fun _ _ _ h => h) (fun _ _ _ h => h.1) (h2.mm uc) (lit_mat (r := 2) (c := 3) (l := [1, 0, 1, 0, 1, 1]) (e := TInt) (rng _ rfl) rfl (by decide) sb) (by decide) (by decide)) ?_
  rintro v8 U8 D8 hU8 ⟨b, rfl, hb, rfl, rfl⟩
  obtain rfl := hb.2 ⟨rfl, rfl, hR⟩
  rw [List.nil_append]
  repeat (first | refine run_S ?_ | refine w_box (fun _ => ?_) | refine w_al (fun _ => ?_))
  refine sl_gdec rfl rfl (fun _ => ?_) (fun h => absurd rfl h)
  repeat (first | refine run_S ?_ | refine w_box (fun _ => ?_) | refine w_al (fun _ => ?_))
  refine sl_call rfl rfl rfl rfl rfl rfl (fun _ => bFrac_ct (n := 1) (d := 2) (by decide) (by decide) (by decide)) ?_
  rintro v9 U9 D9 hU9 ⟨r9, rfl, h9, rfl⟩
  try rw [List.nil_append]
  repeat (first | refine run_S ?_ | refine w_box (fun _ => ?_) | refine w_al (fun _ => ?_))
  refine sl_call rfl rfl rfl rfl rfl rfl (fun _ => bSameRat_cz (hr.up uc sb) (h9.up uc sb)) ?_
  rintro v U' D hU ⟨rfl, rfl, rfl⟩
  repeat (first | refine run_S ?_ | refine w_box (fun _ => ?_) | refine w_al (fun _ => ?_))
  rw [decide_eq_true (show Rat.divInt 1 2 = Rat.divInt ((1 : Nat) : Int) ((2 : Nat) : Int) from rfl)]
  repeat (first | refine run_S ?_ | refine w_box (fun _ => ?_) | refine w_al (fun _ => ?_))
  exact sk_ret [] sym rfl (.cons (.tmp rfl) .nil) uc sb (.inl rfl) ⟨rfl, uc, rfl⟩
end Go.Proofs.Ytlnmhjkagnfnaaa
