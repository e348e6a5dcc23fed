/- Laws of layer 36: squares. -/
import Derived.Test.YtjfkodlddladhaaGreatB219
import Derived.Test.YtjfkodlddladhaaGreatRt
namespace Go.Proofs.YtjfkodlddladhaaGreat
open Go.Hp
variable {G : World} {U U' : UH} {M : MH}
theorem Vser.up {ok : UH → Value → Rat → Prop} {M' : MH} {v : Value} {f : Int} {N : Nat} {g : Nat → Rat} (h : Vser ok U M v f N g) (hk : Kept ok) (hU : ULe U U') (hM : M.Sublist M') : Vser ok U' M' v f N g := by
  obtain ⟨a, h1, h2⟩ := h
  exact ⟨a, h1, h2.up hk hU hM⟩
theorem two_bd {n : Nat} : ∀ d : Nat, -(4 * (d : Int)) ≤ Bx.two n d ∧ Bx.two n d ≤ 4 * d
  | 0 => by show -(4 * ((0 : Nat) : Int)) ≤ 0 ∧ (0 : Int) ≤ 4 * ((0 : Nat) : Int); omega
  | d + 1 => by
    have h := two_bd (n := n) d
    have hc : -1 ≤ Bx.chi (d + 1) ∧ Bx.chi (d + 1) ≤ 1 := by unfold Bx.chi; split <;> (try split) <;> omega
    unfold Bx.two
    split <;> omega
theorem four_bd {n : Nat} : ∀ d : Nat, d ≤ 30 → 0 ≤ Bx.four n d ∧ Bx.four n d ≤ 240 * d
  | 0, _ => by show (0 : Int) ≤ 0 ∧ (0 : Int) ≤ 240 * ((0 : Nat) : Int); omega
  | d + 1, hd => by
    have h := four_bd (n := n) d (by omega)
    unfold Bx.four
    split <;> omega
def gsq (n' n : Nat) : Nat → Rat := fun q => (((cv n' (fu n') (fun _ => Bx.rt n) (Bx.pre (fun _ => Bx.rt n) n') q : Nat) : Int) : Rat)
theorem pre_rt {n' n : Nat} (hn : n' = 2 ∨ n' = 4) (h : n ≤ 30) : Bx.pre (fun _ => Bx.rt n) n' ≤ 14641 := by
  have h2 : Bx.rt n ≤ 5 := by unfold Bx.rt; split <;> (try split) <;> (try split) <;> (try split) <;> (try split) <;> omega
  have h3 : 2 * Bx.rt n + 1 ≤ 11 := by omega
  have a1 := Nat.mul_le_mul h3 h3
  rcases hn with rfl | rfl
  · show 1 * (2 * Bx.rt n + 1) * (2 * Bx.rt n + 1) ≤ 14641
    rw [Nat.one_mul]; omega
  · show 1 * (2 * Bx.rt n + 1) * (2 * Bx.rt n + 1) * (2 * Bx.rt n + 1) * (2 * Bx.rt n + 1) ≤ 14641
    rw [Nat.one_mul]
    exact Nat.mul_le_mul (Nat.mul_le_mul a1 h3) h3
theorem gsq_two {n : Nat} (h1 : 1 ≤ n) (h : n ≤ 30) : gsq 2 n n = ((Bx.two n n : Int) : Rat) := by
  unfold gsq
  rw [fu_cv2, ← Bx.pre_vol, Bx.squares_two h1 h]
theorem gsq_four {n : Nat} (h1 : 1 ≤ n) (h : n ≤ 30) : gsq 4 n n = ((Bx.four n n : Int) : Rat) := by
  unfold gsq
  rw [fu_cv4, ← Bx.pre_vol, Bx.squares_four h1 h]
theorem gsq_sz {n' n q : Nat} (hn : n' = 2 ∨ n' = 4) (h : n ≤ 30) : Szq (gsq n' n q) 1 := by
  have h1 := pre_rt hn h
  have h2 := cnt_le (fun t => vn n' (fu n') (fun _ => Bx.rt n) t == q) (Bx.pre (fun _ => Bx.rt n) n')
  refine szq_int ?_ (by decide)
  unfold Sz cv
  omega
theorem fu_exp {n' n : Nat} {v : Value} (hn : n' = 2 ∨ n' = 4) (h : n ≤ 30) (hv : WgtO n' (fu n') (n + 1) U v) : ∃ s r, Skp (gsq n' n) (n + 1) s ∧ v = .tuple #[r, .int .i64 0] ∧ Vser Vq U [] r (s : Int) (n + 1 - s) (fun k => gsq n' n (s + k)) := by
  obtain ⟨X, hX, h1, -⟩ := hv
  have hb : ∀ i, i < n' → bd X (n + 1 - 1) i = Bx.rt n := fun i hi => fu_bd hn h hX hi
  have hp := pre_congr (b' := fun _ => Bx.rt n) hb
  rw [hp] at h1
  have hl := pre_rt hn h
  obtain ⟨s, r, h2, h3, h4⟩ := h1 (by omega)
  have he : (fun q => (((cv n' (fu n') (bd X (n + 1 - 1)) (Bx.pre (fun _ => Bx.rt n) n') q : Nat) : Int) : Rat)) = gsq n' n := funext fun q => by unfold gsq; rw [cv_congr hb]
  rw [he] at h2
  refine ⟨s, r, h2, h3, ?_⟩
  have he2 : (fun k => (((cv n' (fu n') (bd X (n + 1 - 1)) (Bx.pre (fun _ => Bx.rt n) n') (s + k) : Nat) : Int) : Rat)) = fun k => gsq n' n (s + k) := funext fun k => congrFun he (s + k)
  rw [he2] at h4
  exact h4
theorem skp_at {g : Nat → Rat} {n s : Nat} (h : Skp g (n + 1) s) : (if (n : Int) < (s : Int) ∨ (s : Int) + ((n + 1 - s : Nat) : Int) ≤ (n : Int) then (0 : Rat) else g (s + ((n : Int) - (s : Int)).toNat)) = g n := by
  have h1 := h.1
  by_cases e : n < s
  · rw [if_pos (.inl (by omega)), h.2.1 n e]
  · rw [if_neg (by omega), show s + ((n : Int) - (s : Int)).toNat = n by omega]
theorem chi_at (d : Nat) : ([Value.int .i64 0, .int .i64 1, .int .i64 0, .int .i64 (-1)])[(d + 1) % 4]? = some (.int .i64 (Bx.chi (d + 1))) := by
  unfold Bx.chi
  rcases show (d + 1) % 4 = 0 ∨ (d + 1) % 4 = 1 ∨ (d + 1) % 4 = 2 ∨ (d + 1) % 4 = 3 by omega with e | e | e | e <;> rw [e] <;> rfl
set_option maxHeartbeats 4000000 in
theorem ThetaSquares_ct {n : Int} (hn0 : -9223372036854775808 ≤ n) (hn1 : n ≤ 9223372036854775807) :
    Ct Tryz.prog 4 [.int .i64 n] G U M fun v _ _ => v = .bool true := by
  refine ct_of_st Tryz.func4 rfl rfl rfl rfl ?_
  repeat (first | refine run_S ?_ | refine w_box (fun _ => ?_) | refine w_al (fun _ => ?_))
  refine sl_gdec rfl rfl (fun h1 => ?_) (fun h1 => ?_)
  · repeat (first | refine run_S ?_ | refine w_box (fun _ => ?_) | refine w_al (fun _ => ?_))
    refine sl_call rfl rfl rfl rfl rfl rfl (fun _ => awake36_ct) ?_
    rintro v9 U9 D9 hU9 ⟨rfl, -, rfl⟩
    try rw [List.nil_append]
    repeat (first | refine run_S ?_ | refine w_box (fun _ => ?_) | refine w_al (fun _ => ?_))
    exact sk_ret [] sym rfl (.cons (.tmp rfl) .nil) uc sb (.inl rfl) rfl
  repeat (first | refine run_S ?_ | refine w_box (fun _ => ?_) | refine w_al (fun _ => ?_))
  refine st_dec rfl (fun h2 => ?_) (fun h2 => ?_)
  · repeat (first | refine run_S ?_ | refine w_box (fun _ => ?_) | refine w_al (fun _ => ?_))
    refine sl_call rfl rfl rfl rfl rfl rfl (fun _ => awake36_ct) ?_
    rintro v9 U9 D9 hU9 ⟨rfl, -, rfl⟩
    try rw [List.nil_append]
    repeat (first | refine run_S ?_ | refine w_box (fun _ => ?_) | refine w_al (fun _ => ?_))
    exact sk_ret [] sym rfl (.cons (.tmp rfl) .nil) uc sb (.inl rfl) rfl
  obtain ⟨n, rfl⟩ : ∃ m : Nat, n = (m : Int) := ⟨n.toNat, by omega⟩
  have hnn : 1 ≤ n ∧ n ≤ 30 := by omega
  repeat (first | refine run_S ?_ | refine w_box (fun _ => ?_) | refine w_al (fun _ => ?_))
  refine sl_call rfl rfl rfl rfl rfl rfl (fun _ => unit_ct (n := 2) (by decide) (by decide)) ?_
  rintro v1 U1 D1 hU1 ⟨⟨_, rfl, p1, c1, vs1, rfl, hc1, rw1, el1⟩, rfl⟩
  try rw [List.nil_append]
  repeat (first | refine run_S ?_ | refine w_box (fun _ => ?_) | refine w_al (fun _ => ?_))
  refine sl_call rfl rfl rfl rfl rfl rfl (fun _ => tExpansion_ct (r := 2) (prec := (n : Int) + 1) (rw1.up uc (List.nil_sublist _)) (el1.up KeptC.out uc) (by decide) (by omega)) ?_
  rintro v2 U2 D2 hU2 ⟨-, hv2, rfl⟩
  try rw [List.nil_append]
  obtain ⟨s2, _, hs2, rfl, _, rfl, hser2⟩ := fu_exp (n' := 2) (n := n) (.inl rfl) hnn.2 ((hv2 2 rfl (fu_chk (.inl rfl))).2 (n + 1) rfl (by omega))
  obtain ⟨p2, c2, us2, rfl, -⟩ := id hser2
  clear hv2
  repeat (first | refine run_S ?_ | refine w_box (fun _ => ?_) | refine w_al (fun _ => ?_))
  refine sl_call rfl rfl rfl rfl rfl rfl (fun _ => unit_ct (n := 4) (by decide) (by decide)) ?_
  rintro v3 U3 D3 hU3 ⟨⟨_, rfl, p3, c3, vs3, rfl, hc3, rw3, el3⟩, rfl⟩
  try rw [List.nil_append]
  repeat (first | refine run_S ?_ | refine w_box (fun _ => ?_) | refine w_al (fun _ => ?_))
  refine sl_call rfl rfl rfl rfl rfl rfl (fun _ => tExpansion_ct (r := 4) (prec := (n : Int) + 1) (rw3.up uc (List.nil_sublist _)) (el3.up KeptC.out uc) (by decide) (by omega)) ?_
  rintro v4 U4 D4 hU4 ⟨-, hv4, rfl⟩
  try rw [List.nil_append]
  obtain ⟨s4, _, hs4, rfl, _, rfl, hser4⟩ := fu_exp (n' := 4) (n := n) (.inr rfl) hnn.2 ((hv4 4 rfl (fu_chk (.inr rfl))).2 (n + 1) rfl (by omega))
  obtain ⟨p4, c4, us4, rfl, -⟩ := id hser4
  clear hv4
  repeat (first | refine run_S ?_ | refine w_box (fun _ => ?_) | refine w_al (fun _ => ?_))
  rename_i b3 b5
  try refine st_anti (M' := (b5, .var (.agg #[.int .i64 (s4 : Int), .slice p4 (n + 1 - s4) c4]), 30) :: (b3, .var (.agg #[.int .i64 (s2 : Int), .slice p2 (n + 1 - s2) c2]), 30) :: M) (ULe.refl _) sbk ?_
  refine st_loop (fun z E U' M' => ∃ (d : Nat), d ≤ n ∧ U4 = U' ∧ E = [(9, .int .i64 ((d : Int) + 1)), (8, .int .i64 (Bx.four n d)), (7, .int .i64 (Bx.two n d)), (6, .int .i64 0), (5, .pointer (some ⟨b5, 0, none⟩)), (4, .int .i64 0), (3, .pointer (some ⟨b3, 0, none⟩)), (0, .int .i64 (n : Int))] ∧ ULe U4 U' ∧ M' = (b5, .var (.agg #[.int .i64 (s4 : Int), .slice p4 (n + 1 - s4) c4]), 30) :: (b3, .var (.agg #[.int .i64 (s2 : Int), .slice p2 (n + 1 - s2) c2]), 30) :: M ∧ z = n - d) (n0 := n - 0) (E0 := [(9, .int .i64 (((0 : Nat) : Int) + 1)), (8, .int .i64 (Bx.four n 0)), (7, .int .i64 (Bx.two n 0)), (6, .int .i64 0), (5, .pointer (some ⟨b5, 0, none⟩)), (4, .int .i64 0), (3, .pointer (some ⟨b3, 0, none⟩)), (0, .int .i64 (n : Int))]) ⟨rfl, rfl, rfl, rfl, rfl, rfl, rfl, rfl, trivial⟩ ⟨0, by omega, rfl, rfl, uc, rfl, rfl⟩ ?_
  rintro z E U5 M' ⟨d, hd, rfl, rfl, hU5, rfl, rfl⟩
  try refine run_s ?_
  have t2 := two_bd (n := n) d
  have t4 := four_bd (n := n) d (by omega)
  refine st_dec rfl (fun h => ?_) (fun h => ?_)
  · have hdn : d < n := by omega
    have u2 := two_bd (n := n) (d + 1)
    have u4 := four_bd (n := n) (d + 1) (by omega)
    repeat (first | refine run_S ?_ | refine w_box (fun _ => ?_) | refine w_al (fun _ => ?_))
    have e5 : (n : Int).tmod ((d : Int) + 1) = ((n % (d + 1) : Nat) : Int) := rfl
    rw [e5]
    refine st_dec rfl (fun h3 => ?_) (fun h3 => ?_)
    · have h3' : n % (d + 1) = 0 := by omega
      have e2 : Bx.two n (d + 1) = Bx.two n d + 4 * Bx.chi (d + 1) := if_pos h3'
      repeat (first | refine run_S ?_ | refine w_box (fun _ => ?_) | refine w_al (fun _ => ?_))
      refine sl_bslice (vs := [.int .i64 0, .int .i64 1, .int .i64 0, .int .i64 (-1)]) sym rfl rfl rfl rfl rfl rfl (all_size rfl) rfl rfl rfl rfl rfl rfl (fun b41 => ?_)
      have rL := (RowO.mk (e := TInt) (s := 1) (b := b41) (n := 4) (vs := [.int .i64 0, .int .i64 1, .int .i64 0, .int .i64 (-1)]) rfl (all_size rfl) (by decide)).at (U := U4) (M := (b41, .arr [.int .i64 0, .int .i64 1, .int .i64 0, .int .i64 (-1)], TInt) :: (b5, .var (.agg #[.int .i64 (s4 : Int), .slice p4 (n + 1 - s4) c4]), 30) :: (b3, .var (.agg #[.int .i64 (s2 : Int), .slice p2 (n + 1 - s2) c2]), 30) :: M) sb
      repeat (first | refine run_S ?_ | refine w_box (fun _ => ?_) | refine w_al (fun _ => ?_))
      rw [show ((d : Int) + 1).tmod 4 = (((d + 1) % 4 : Nat) : Int) from rfl]
      have hch := chi_at d
      refine sl_y (yl_index sym rfl rfl rfl rfl rfl rfl (rL.lt hch) (rL.get _ _ hch).1) rfl rfl rfl rfl ?_; refine sl_y (yl_loadR1 sym rfl rfl rfl rfl rL hch rfl) rfl rfl rfl rfl ?_
      have hchi : -1 ≤ Bx.chi (d + 1) ∧ Bx.chi (d + 1) ≤ 1 := by unfold Bx.chi; split <;> (try split) <;> omega
      repeat (first | refine run_S ?_ | refine w_box (fun _ => ?_) | refine w_al (fun _ => ?_))
      rw [← e2, show ((d : Int) + 1).tmod 4 = (((d + 1) % 4 : Nat) : Int) from rfl]
      refine st_ne rfl (fun h4 => ?_) (fun h4 => ?_)
      · have e4 : Bx.four n (d + 1) = Bx.four n d + 8 * ((d + 1 : Nat) : Int) := if_pos ⟨h3', by omega⟩
        rw [show ((d + 1 : Nat) : Int) = (d : Int) + 1 from rfl] at e4
        repeat (first | refine run_S ?_ | refine w_box (fun _ => ?_) | refine w_al (fun _ => ?_))
        rw [← e4]
        refine sk_anti (M' := (b5, .var (.agg #[.int .i64 (s4 : Int), .slice p4 (n + 1 - s4) c4]), 30) :: (b3, .var (.agg #[.int .i64 (s2 : Int), .slice p2 (n + 1 - s2) c2]), 30) :: M) (ULe.refl _) sbk ?_
        exact sk_again (E' := [(9, .int .i64 (((d : Int) + 1) + 1)), (8, .int .i64 (Bx.four n (d + 1))), (7, .int .i64 (Bx.two n (d + 1))), (6, .int .i64 0), (5, .pointer (some ⟨b5, 0, none⟩)), (4, .int .i64 0), (3, .pointer (some ⟨b3, 0, none⟩)), (0, .int .i64 (n : Int))]) (m := n - (d + 1)) ⟨rfl, rfl, rfl, rfl, rfl, rfl, rfl, rfl, trivial⟩ (by omega) ⟨d + 1, by omega, rfl, rfl, uc, rfl, rfl⟩
      · have e4 : Bx.four n (d + 1) = Bx.four n d := if_neg fun h => h.2 (by omega)
        repeat (first | refine run_S ?_ | refine w_box (fun _ => ?_) | refine w_al (fun _ => ?_))
        rw [← e4]
        refine sk_anti (M' := (b5, .var (.agg #[.int .i64 (s4 : Int), .slice p4 (n + 1 - s4) c4]), 30) :: (b3, .var (.agg #[.int .i64 (s2 : Int), .slice p2 (n + 1 - s2) c2]), 30) :: M) (ULe.refl _) sbk ?_
        exact sk_again (E' := [(9, .int .i64 (((d : Int) + 1) + 1)), (8, .int .i64 (Bx.four n (d + 1))), (7, .int .i64 (Bx.two n (d + 1))), (6, .int .i64 0), (5, .pointer (some ⟨b5, 0, none⟩)), (4, .int .i64 0), (3, .pointer (some ⟨b3, 0, none⟩)), (0, .int .i64 (n : Int))]) (m := n - (d + 1)) ⟨rfl, rfl, rfl, rfl, rfl, rfl, rfl, rfl, trivial⟩ (by omega) ⟨d + 1, by omega, rfl, rfl, uc, rfl, rfl⟩
    · have h3' : ¬ n % (d + 1) = 0 := by omega
      have e2 : Bx.two n (d + 1) = Bx.two n d := if_neg h3'
      have e4 : Bx.four n (d + 1) = Bx.four n d := if_neg fun h => h3' h.1
      repeat (first | refine run_S ?_ | refine w_box (fun _ => ?_) | refine w_al (fun _ => ?_))
      rw [← e2, ← e4]
      exact sk_again (E' := [(9, .int .i64 (((d : Int) + 1) + 1)), (8, .int .i64 (Bx.four n (d + 1))), (7, .int .i64 (Bx.two n (d + 1))), (6, .int .i64 0), (5, .pointer (some ⟨b5, 0, none⟩)), (4, .int .i64 0), (3, .pointer (some ⟨b3, 0, none⟩)), (0, .int .i64 (n : Int))]) (m := n - (d + 1)) ⟨rfl, rfl, rfl, rfl, rfl, rfl, rfl, rfl, trivial⟩ (by omega) ⟨d + 1, by omega, rfl, rfl, uc, rfl, rfl⟩
  obtain rfl : n = d := by omega
  have v2 : Vser Vq U4 [] (.agg #[.int .i64 (s2 : Int), .slice p2 (n + 1 - s2) c2]) (s2 : Int) (n + 1 - s2) (fun k => gsq 2 n (s2 + k)) := ⟨_, rfl, hser2.up kept_q uc (List.Sublist.refl _)⟩
  have v4 : Vser Vq U4 [] (.agg #[.int .i64 (s4 : Int), .slice p4 (n + 1 - s4) c4]) (s4 : Int) (n + 1 - s4) (fun k => gsq 4 n (s4 + k)) := ⟨_, rfl, hser4.up kept_q uc (List.Sublist.refl _)⟩
  have hs2' := hs2.1
  have hs4' := hs4.1
  repeat (first | refine run_S ?_ | refine w_box (fun _ => ?_) | refine w_al (fun _ => ?_))
  refine sl_gdec rfl rfl (fun _ => ?_) (fun h => absurd rfl h)
  repeat (first | refine run_S ?_ | refine w_box (fun _ => ?_) | refine w_al (fun _ => ?_))
  refine sl_gdec rfl rfl (fun _ => ?_) (fun h => absurd rfl h)
  repeat (first | refine run_S ?_ | refine w_box (fun _ => ?_) | refine w_al (fun _ => ?_))
  refine sl_call rfl rfl rfl rfl rfl rfl (fun _ => r33Prec_ct (v2.up kept_q uc (List.nil_sublist _)) (by omega)) ?_
  rintro v U' D hU ⟨rfl, rfl, rfl⟩
  repeat (first | refine run_S ?_ | refine w_box (fun _ => ?_) | refine w_al (fun _ => ?_))
  refine sl_gdec rfl rfl (fun _ => ?_) (fun h => absurd (show (s2 : Int) + ((n + 1 - s2 : Nat) : Int) = (n : Int) + 1 by omega) h)
  repeat (first | refine run_S ?_ | refine w_box (fun _ => ?_) | refine w_al (fun _ => ?_))
  refine sl_call rfl rfl rfl rfl rfl rfl (fun _ => r33Prec_ct (v4.up kept_q uc (List.nil_sublist _)) (by omega)) ?_
  rintro v U' D hU ⟨rfl, rfl, rfl⟩
  repeat (first | refine run_S ?_ | refine w_box (fun _ => ?_) | refine w_al (fun _ => ?_))
  refine sl_gdec rfl rfl (fun _ => ?_) (fun h => absurd (show (s4 : Int) + ((n + 1 - s4 : Nat) : Int) = (n : Int) + 1 by omega) h)
  repeat (first | refine run_S ?_ | refine w_box (fun _ => ?_) | refine w_al (fun _ => ?_))
  refine sl_call rfl rfl rfl rfl rfl rfl (fun _ => r33Coef_ct (b := 1) (n := (n : Int)) (v2.up kept_q uc (List.nil_sublist _)) (fun k _ => gsq_sz (.inl rfl) hnn.2) (by decide) (by omega) (by omega) (by omega)) ?_
  rintro v Uh78 D hU ⟨xh78, rfl, h78, rfl⟩
  repeat (first | refine run_S ?_ | refine w_box (fun _ => ?_) | refine w_al (fun _ => ?_))
  rw [skp_at hs2] at h78
  refine sl_call rfl rfl rfl rfl rfl rfl (fun _ => (bQ_ct (z := Bx.two n n) (by omega) (by omega)).settle) ?_
  rintro v Uh80 D hU ⟨rfl, _, _, ⟨xh80, rfl, h80, -⟩, -, -, hs⟩
  replace h80 := h80.sett hs
  clear hs
  repeat (first | refine run_S ?_ | refine w_box (fun _ => ?_) | refine w_al (fun _ => ?_))
  refine sl_call rfl rfl rfl rfl rfl rfl (fun _ => rqSame_ct (h78.up uc (List.nil_sublist _)) (h80.up uc (List.nil_sublist _))) ?_
  rintro v U' D hU ⟨rfl, rfl, rfl⟩
  repeat (first | refine run_S ?_ | refine w_box (fun _ => ?_) | refine w_al (fun _ => ?_))
  rw [decide_eq_true (gsq_two hnn.1 hnn.2)]
  repeat (first | refine run_S ?_ | refine w_box (fun _ => ?_) | refine w_al (fun _ => ?_))
  refine sl_call rfl rfl rfl rfl rfl rfl (fun _ => r33Coef_ct (b := 1) (n := (n : Int)) (v4.up kept_q uc (List.nil_sublist _)) (fun k _ => gsq_sz (.inr rfl) hnn.2) (by decide) (by omega) (by omega) (by omega)) ?_
  rintro v Uh86 D hU ⟨xh86, rfl, h86, rfl⟩
  repeat (first | refine run_S ?_ | refine w_box (fun _ => ?_) | refine w_al (fun _ => ?_))
  rw [skp_at hs4] at h86
  refine sl_call rfl rfl rfl rfl rfl rfl (fun _ => (bQ_ct (z := Bx.four n n) (by omega) (by omega)).settle) ?_
  rintro v Uh88 D hU ⟨rfl, _, _, ⟨xh88, rfl, h88, -⟩, -, -, hs⟩
  replace h88 := h88.sett hs
  clear hs
  repeat (first | refine run_S ?_ | refine w_box (fun _ => ?_) | refine w_al (fun _ => ?_))
  refine sl_call rfl rfl rfl rfl rfl rfl (fun _ => rqSame_ct (h86.up uc (List.nil_sublist _)) (h88.up uc (List.nil_sublist _))) ?_
  rintro v U' D hU ⟨rfl, rfl, rfl⟩
  repeat (first | refine run_S ?_ | refine w_box (fun _ => ?_) | refine w_al (fun _ => ?_))
  rw [decide_eq_true (gsq_four hnn.1 hnn.2)]
  repeat (first | refine run_S ?_ | refine w_box (fun _ => ?_) | refine w_al (fun _ => ?_))
  refine sl_call rfl rfl rfl rfl rfl rfl (fun _ => awake36_ct) ?_
  rintro v9 U9 D9 hU9 ⟨rfl, -, rfl⟩
  try rw [List.nil_append]
  repeat (first | refine run_S ?_ | refine w_box (fun _ => ?_) | refine w_al (fun _ => ?_))
  exact sk_ret [] sym rfl (.cons (.tmp rfl) .nil) uc sb (.inl rfl) rfl
end Go.Proofs.YtjfkodlddladhaaGreat
