/- Laws of layer 36: Binary. -/
import Derived.Test.YtjfkodlddladhaaGreatM54
import Derived.Test.YtjfkodlddladhaaGreatRt
namespace Go.Proofs.YtjfkodlddladhaaGreat
open Go.Hp
variable {G : World} {U U' : UH} {M : MH}
theorem BinO.val {a b c : Int} {v : Value} (h : BinO a b c U v) : ∃ (r e : Int) (s : Value) (n : Nat) (g : Nat → Int), v = .tuple #[.agg #[.int .i64 r, s], .int .i64 e] ∧ Ls Vz 1 n U [] s g ∧ n ≤ 4 ∧
    (chq a b c ≠ 0 → e = chq a b c ∧ r = 0 ∧ n = 0) ∧ (chq a b c = 0 → ¬ Ins 4 (fun k => ([2 * a, b, b, 2 * c] : List Int).getD k 0) → e = 7 ∧ r = 0 ∧ n = 0) ∧ (chq a b c = 0 → Ins 4 (fun k => ([2 * a, b, b, 2 * c] : List Int).getD k 0) → e = 0 ∧ r = 2 ∧ n = 4 ∧ g = (fun k => ([2 * a, b, b, 2 * c] : List Int).getD k 0)) := by
  obtain ⟨h1, h2, h3⟩ := h
  by_cases e1 : chq a b c = 0
  · by_cases e2 : Ins 4 (fun k => ([2 * a, b, b, 2 * c] : List Int).getD k 0)
    · obtain ⟨s, k1, k2⟩ := h3 e1 e2
      exact ⟨_, _, _, _, _, k1, k2, Nat.le_refl 4, fun h => absurd e1 h, fun _ h => absurd e2 h, fun _ _ => ⟨rfl, rfl, rfl, rfl⟩⟩
    · exact ⟨_, _, _, 0, fun _ => 0, h2 e1 e2, ⟨_, _, [], rfl, Nat.le_refl 0, RowAt.nil, El.nil⟩, by decide, fun h => absurd e1 h, fun _ _ => ⟨rfl, rfl, rfl⟩, fun _ h => absurd h e2⟩
  · exact ⟨_, _, _, 0, fun _ => 0, h1 e1, ⟨_, _, [], rfl, Nat.le_refl 0, RowAt.nil, El.nil⟩, by decide, fun _ => ⟨rfl, rfl, rfl⟩, fun h => absurd h e1, fun h => absurd h e1⟩
theorem ThetaBinary_ct {vx : Value} {a b c : Int} (hv : RawQ vx a b c) :
    Ct Tryz.prog 6 [vx] G U M fun v _ _ => v = .bool true := by
  obtain ⟨ha, hb, hc, rfl⟩ := hv
  refine ct_of_st Tryz.func6 rfl rfl rfl rfl ?_
  repeat (first | refine run_S ?_ | refine w_box (fun _ => ?_) | refine w_al (fun _ => ?_))
  refine sl_call rfl rfl rfl rfl rfl rfl (fun _ => tBinary_ct) ?_
  rintro v1 U1 D1 hU1 ⟨h1, rfl⟩
  rw [List.nil_append]
  obtain ⟨r1, e1, _, n1, g1, rfl, ⟨p1, c1, vs1, rfl, hc1, rw1, el1⟩, hn1, k1, k2, k3⟩ := h1.val
  repeat (first | refine run_S ?_ | refine w_box (fun _ => ?_) | refine w_al (fun _ => ?_))
  refine sl_call rfl rfl rfl rfl rfl rfl (fun _ => r36Binary_ct) ?_
  rintro v2 U2 D2 hU2 ⟨h2, rfl⟩
  rw [List.nil_append]
  obtain ⟨r2, e2, _, n2, g2, rfl, ⟨p2, c2, vs2, rfl, hc2, rw2, el2⟩, hn2, j1, j2, j3⟩ := h2.val
  have hsame : r1 = r2 ∧ e1 = e2 ∧ n1 = n2 ∧ ∀ k, k < n2 → g1 k = g2 k := by
    by_cases q1 : chq a b c = 0
    · by_cases q2 : Ins 4 (fun k => ([2 * a, b, b, 2 * c] : List Int).getD k 0)
      · obtain ⟨rfl, rfl, rfl, rfl⟩ := k3 q1 q2
        obtain ⟨rfl, rfl, rfl, rfl⟩ := j3 q1 q2
        exact ⟨rfl, rfl, rfl, fun _ _ => rfl⟩
      · obtain ⟨rfl, rfl, rfl⟩ := k2 q1 q2
        obtain ⟨rfl, rfl, rfl⟩ := j2 q1 q2
        exact ⟨rfl, rfl, rfl, fun _ h => absurd h (Nat.not_lt_zero _)⟩
    · obtain ⟨rfl, rfl, rfl⟩ := k1 q1
      obtain ⟨rfl, rfl, rfl⟩ := j1 q1
      exact ⟨rfl, rfl, rfl, fun _ h => absurd h (Nat.not_lt_zero _)⟩
  clear k1 k2 k3 j1 j2 j3 h1 h2
  obtain ⟨rfl, rfl, rfl, hg⟩ := hsame
  repeat (first | refine run_S ?_ | refine w_box (fun _ => ?_) | refine w_al (fun _ => ?_))
  refine sl_call rfl rfl rfl rfl rfl rfl (fun _ => same36_ct (rw1.up uc (List.nil_sublist _)) (el1.up KeptC.out uc) (rw2.up uc (List.nil_sublist _)) (el2.up KeptC.out uc) hc1 hc2 (by omega) (by omega)) ?_
  rintro v3 U3 D3 hU3 ⟨bb, rfl, hbb, rfl, rfl⟩
  obtain rfl := hbb.2 ⟨rfl, rfl, hg⟩
  rw [List.nil_append]
  repeat (first | refine run_S ?_ | refine w_box (fun _ => ?_) | refine w_al (fun _ => ?_))
  refine sl_gdec rfl rfl (fun _ => ?_) (fun h => absurd rfl h)
  repeat (first | refine run_S ?_ | refine w_box (fun _ => ?_) | refine w_al (fun _ => ?_))
  refine sl_call rfl rfl rfl rfl rfl rfl (fun _ => awake36_ct) ?_
  rintro v9 U9 D9 hU9 ⟨rfl, -, rfl⟩
  try rw [List.nil_append]
  repeat (first | refine run_S ?_ | refine w_box (fun _ => ?_) | refine w_al (fun _ => ?_))
  exact sk_ret [] sym rfl (.cons (.tmp rfl) .nil) uc sb (.inl rfl) rfl
end Go.Proofs.YtjfkodlddladhaaGreat
