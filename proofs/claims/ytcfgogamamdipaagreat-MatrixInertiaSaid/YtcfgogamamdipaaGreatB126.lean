/- Walks of reference 09: values, symmetry, signatures. -/
import Derived.Test.YtcfgogamamdipaaGreatB122
import Derived.Test.YtcfgogamamdipaaGreatM21
import Derived.Test.YtcfgogamamdipaaGreatLn
namespace Go.Proofs.YtcfgogamamdipaaGreat
open Go.Hp
variable {G : World} {U U' : UH} {M M' : MH}

theorem m9Symmetric_ct {n b : Nat} {va : Value} {A : Nat → Nat → Rat} (ha : Vm (Wq b) n n U va A) (hb : b ≤ 10000000000) (hn : n ≤ 1000) :
    Ct Tryz.prog 50 [va] G U M fun v U' D => ∃ s : Bool, v = .bool s ∧ (s = true ↔ ∀ i j, i < n → j < i → A i j = A j i) ∧ D = [] := by
  have hnn : n * n ≤ 1000 * 1000 := Nat.mul_le_mul hn hn
  have ha2 := ha
  obtain ⟨_, rfl, pa, cca, as1, rfl, -⟩ := ha
  refine ct_of_st Tryz.func50 rfl rfl rfl rfl ?_
  repeat (first | refine run_S ?_ | refine w_box (fun _ => ?_) | refine w_al (fun _ => ?_))
  rename_i b1
  refine st_loop (fun z E U' M' => ∃ i : Nat, i ≤ n ∧ (∀ a b, a < i → b < a → A a b = A b a) ∧ E = [(3, .int .i64 (i : Int)), (1, .pointer (some ⟨b1, 0, none⟩))] ∧ ULe U U' ∧ M' = (b1, .var (.agg #[.int .i64 (n : Int), .int .i64 (n : Int), .slice pa (n * n) cca]), TM) :: M ∧ z = n - i) (n0 := n)
    (E0 := [(3, .int .i64 ((0 : Nat) : Int)), (1, .pointer (some ⟨b1, 0, none⟩))]) ⟨rfl, rfl, trivial⟩ ⟨0, by omega, (fun a b h => absurd h (Nat.not_lt_zero a)), rfl, uc, rfl, rfl⟩ ?_
  rintro z E U1 M' ⟨i, hi, hsy, rfl, hU1, rfl, rfl⟩
  try refine run_s ?_
  refine st_dec rfl (fun h => ?_) (fun h => ?_)
  · have hin : i < n := by omega
    try refine run_s ?_
    refine st_loop (fun z E U' M2 => ∃ j : Nat, j ≤ i ∧ (∀ b, b < j → A i b = A b i) ∧ E = [(4, .int .i64 (j : Int)), (3, .int .i64 (i : Int)), (1, .pointer (some ⟨b1, 0, none⟩))] ∧ ULe U1 U' ∧ M2 = (b1, .var (.agg #[.int .i64 (n : Int), .int .i64 (n : Int), .slice pa (n * n) cca]), TM) :: M ∧ z = i - j) (n0 := i)
      (E0 := [(4, .int .i64 ((0 : Nat) : Int)), (3, .int .i64 (i : Int)), (1, .pointer (some ⟨b1, 0, none⟩))]) ⟨rfl, rfl, rfl, trivial⟩ ⟨0, by omega, (fun b h => absurd h (Nat.not_lt_zero b)), rfl, uc, rfl, rfl⟩ ?_
    rintro z E U2 M2 ⟨j, hj, hrow, rfl, hU2, rfl, rfl⟩
    try refine run_s ?_
    refine st_dec rfl (fun h2 => ?_) (fun h2 => ?_)
    · have hji : j < i := by omega
      have hjn : j < n := by omega
      try refine run_s ?_
      refine st_draw [0, 1, 2, 4, 5, 6, 3, 7, 8, 9] sym (by kernel_rfl) ?_
      try refine run_s ?_
      refine sl_call rfl rfl rfl rfl rfl rfl (fun _ => m9At_ct (kept_m kept_w _ _ _ _ uc ha2) hin hjn hb (by omega)) ?_
      rintro v3 U3 D3 hU3 ⟨⟨x3, rfl, h3⟩, rfl⟩
      rw [List.nil_append]
      try refine run_s ?_
      refine sl_call rfl rfl rfl rfl rfl rfl (fun _ => m9At_ct (kept_m kept_w _ _ _ _ uc ha2) hjn hin hb (by omega)) ?_
      rintro v4 U4 D4 hU4 ⟨⟨x4, rfl, h4⟩, rfl⟩
      rw [List.nil_append]
      try refine run_s ?_
      refine sl_call rfl rfl rfl rfl rfl rfl (fun _ => rqSame_ct (h3.up uc sb) (h4.up uc sb)) ?_
      rintro v U' D hU ⟨rfl, rfl, rfl⟩
      repeat (first | refine run_S ?_ | refine w_box (fun _ => ?_) | refine w_al (fun _ => ?_))
      by_cases e5 : A i j = A j i
      · rw [decide_eq_true e5]
        try refine run_s ?_
        exact sk_again (E' := [(4, .int .i64 ((j : Int) + 1)), (3, .int .i64 (i : Int)), (1, .pointer (some ⟨b1, 0, none⟩))]) (m := i - (j + 1)) ⟨rfl, rfl, rfl, trivial⟩ (by omega)
          ⟨j + 1, by omega, (fun b hb => by
            rcases Nat.lt_or_eq_of_le (Nat.le_of_lt_succ hb) with h1 | h1
            · exact hrow b h1
            · rw [h1]; exact e5), rfl, uc, rfl, rfl⟩
      · rw [decide_eq_false e5]
        try refine run_s ?_
        exact sk_ret [] sym rfl (.cons (.tmp rfl) .nil) uc sb (.inl rfl) ⟨false, rfl, ⟨(fun h => by cases h), fun h => absurd (h i j hin hji) e5⟩, rfl⟩
    · have e : j = i := by omega
      subst e
      try refine run_s ?_
      exact sk_again (E' := [(3, .int .i64 ((j : Int) + 1)), (1, .pointer (some ⟨b1, 0, none⟩))]) (m := n - (j + 1)) ⟨rfl, rfl, trivial⟩ (by omega)
        ⟨j + 1, by omega, (fun a b ha hb => by
          rcases Nat.lt_or_eq_of_le (Nat.le_of_lt_succ ha) with h1 | h1
          · exact hsy a b h1 hb
          · subst h1; exact hrow b hb), rfl, uc, rfl, rfl⟩
  · have e : i = n := by omega
    subst e
    try refine run_s ?_
    exact sk_ret [] sym rfl (.cons (.tmp rfl) .nil) uc sb (.inl rfl) ⟨true, rfl, ⟨fun _ => hsy, fun _ => rfl⟩, rfl⟩

theorem m9value_ct {n b : Nat} {va vx vy : Value} {A : Nat → Nat → Rat} {f g : Nat → Rat} (ha : Vm (Wq b) n n U va A) (hx : Ls (Wq b) 4 n U [] vx f) (hy : Ls (Wq b) 4 n U [] vy g) (hb1 : 1 ≤ b) (hz0 : 1 + n * (2 * b + 1) ≤ 10000000000) (hB : n * (n * (2 * b + 1) + b + 2) ≤ 30000000000) (hbb : b ≤ 10000000000) (hn : n ≤ 1000) :
    Ct Tryz.prog 99 [va, vx, vy] G U M fun v U' D => ∃ x : QV, v = x.v ∧ x.nrm U' [] (La.bl n A f g) ∧ D = [] := by
  have hnn : n * n ≤ 1000 * 1000 := Nat.mul_le_mul hn hn
  have sA : ∀ i j, i < n → j < n → Szq (A i j) b := fun i j hi hj => ha.sz hb1 hi hj
  have sx : ∀ i, i < n → Szq (f i) b := fun i hi => hx.sz hb1 hi
  have sy : ∀ i, i < n → Szq (g i) b := fun i hi => hy.sz hb1 hi
  have ha2 := ha
  have hx2 := hx
  obtain ⟨_, rfl, pa, cca, as1, rfl, -⟩ := ha
  obtain ⟨px, cx, xs, rfl, -⟩ := hx
  obtain ⟨py, cy, ys, rfl, -, ry, ey⟩ := hy
  refine ct_of_st Tryz.func99 rfl rfl rfl rfl ?_
  repeat (first | refine run_S ?_ | refine w_box (fun _ => ?_) | refine w_al (fun _ => ?_))
  rename_i b3 b6
  refine sl_call rfl rfl rfl rfl rfl rfl (fun _ => (m9Apply_ct (b := b) (Ls.up (M' := _) hx2 kept_w uc (List.nil_sublist _)) (kept_m kept_w _ _ _ _ uc ha2) hb1 hz0 hbb (by omega) (by omega) (by omega)).setl kept_q) ?_
  rintro v1 U1 D1 hU1 ⟨h1, rfl⟩
  rw [List.nil_append]
  have sz : ∀ j, j < n → Szq (La.sm n fun i => f i * A i j) (1 + n * (2 * b + 1)) := fun j hj => (szq_sm fun k hk => (sx k hk).mul (sA k j hk hj)).mono (by
    have : b + b + 1 = 2 * b + 1 := by omega
    rw [this]; exact Nat.le_refl _)
  obtain ⟨pz, cz, zs, rfl, -, rz, ez⟩ := h1
  repeat (first | refine run_S ?_ | refine w_box (fun _ => ?_) | refine w_al (fun _ => ?_))
  refine sl_call rfl rfl rfl rfl rfl rfl (fun _ => rqOf_ct (z := 0) (by decide) (by decide)) ?_
  rintro v Uh2 D hU ⟨xh2, rfl, h2, rfl⟩
  repeat (first | refine run_S ?_ | refine w_box (fun _ => ?_) | refine w_al (fun _ => ?_))
  repeat (first | refine run_S ?_ | refine w_box (fun _ => ?_) | refine w_al (fun _ => ?_))
  rename_i b8
  refine st_loop (fun z E U' M' => ∃ (i : Nat) (xs : QV), i ≤ n ∧ xs.nrm U' [] (La.sm i fun j => (La.sm n fun i => f i * A i j) * g j) ∧ E = [(9, .int .i64 (i : Int)), (8, .pointer (some ⟨b8, 0, none⟩)), (7, .slice pz n cz), (2, .slice py n cy), (6, .pointer (some ⟨b6, 0, none⟩))] ∧ ULe U1 U' ∧
      M' = (b8, .var xs.v, TR) :: (b6, .var zeroQV.v, TR) :: (b3, .var (.agg #[.int .i64 (n : Int), .int .i64 (n : Int), .slice pa (n * n) cca]), TM) :: M ∧ z = n - i) (n0 := n)
    (E0 := [(9, .int .i64 ((0 : Nat) : Int)), (8, .pointer (some ⟨b8, 0, none⟩)), (7, .slice pz n cz), (2, .slice py n cy), (6, .pointer (some ⟨b6, 0, none⟩))]) ⟨rfl, rfl, rfl, rfl, rfl, trivial⟩ ⟨0, xh2, by omega, h2, rfl, uc, rfl, rfl⟩ ?_
  clear h2
  rintro z E U3 M' ⟨i, xs, hi, hs, rfl, hU3, rfl, rfl⟩
  try refine run_s ?_
  refine st_dec rfl (fun h => ?_) (fun h => ?_)
  · have hin : i < n := by omega
    have rz2 := rz.up (U' := U3) (M' := (b8, .var xs.v, TR) :: (b6, .var zeroQV.v, TR) :: (b3, .var (.agg #[.int .i64 (n : Int), .int .i64 (n : Int), .slice pa (n * n) cca]), TM) :: M) uc (List.nil_sublist _)
    have ry2 := ry.up (U' := U3) (M' := (b8, .var xs.v, TR) :: (b6, .var zeroQV.v, TR) :: (b3, .var (.agg #[.int .i64 (n : Int), .int .i64 (n : Int), .slice pa (n * n) cca]), TM) :: M) uc (List.nil_sublist _)
    obtain ⟨v4, hv4⟩ := rz2.at hin
    obtain ⟨x4, rfl, hx4⟩ := ez _ _ hv4
    obtain ⟨v5, hv5⟩ := ry2.at hin
    obtain ⟨x5, rfl, hx5, hl5⟩ := ey _ _ hv5
    have hmul : i * (1 + n * (2 * b + 1) + b + 1) + (1 + n * (2 * b + 1) + b + 1) ≤ n * (n * (2 * b + 1) + b + 2) := by
      have h6 := Nat.mul_le_mul_right (n * (2 * b + 1) + b + 2) (show i + 1 ≤ n by omega)
      rw [Nat.add_mul, Nat.one_mul] at h6
      have e6 : 1 + n * (2 * b + 1) + b + 1 = n * (2 * b + 1) + b + 2 := by omega
      rw [e6]; exact h6
    have sS : Szq (La.sm i fun j => (La.sm n fun i => f i * A i j) * g j) (1 + i * (1 + n * (2 * b + 1) + b + 1)) := szq_sm fun k hk => (sz k (by omega)).mul (sy k (by omega))
    have s4 := sz i hin
    try refine run_s ?_
    refine st_drawM [10, 11] [0, 1, 2, 3, 4, 5, 6, 7, 8, 9, 10, 11] sym (by kernel_rfl) ?_
    try refine run_s ?_
    refine sl_y (yl_index sym rfl rfl rfl rfl rfl rfl (rz2.lt hv4) (rz2.get _ _ hv4).1) rfl rfl rfl rfl ?_; refine sl_y (yl_loadRs sym rfl rfl rfl rfl rfl rz2 hv4) rfl rfl rfl rfl ?_
    try refine run_s ?_
    refine sl_y (yl_index sym rfl rfl rfl rfl rfl rfl (ry2.lt hv5) (ry2.get _ _ hv5).1) rfl rfl rfl rfl ?_; refine sl_y (yl_loadRs sym rfl rfl rfl rfl rfl ry2 hv5) rfl rfl rfl rfl ?_
    try refine run_s ?_
    generalize hW : 1 + n * (2 * b + 1) = W at *
    generalize hI : i * (W + b + 1) = I at *
    refine sl_call rfl rfl rfl rfl rfl rfl (fun _ => rqMul_ct (hx4.rep.up uc sb) (hx4.le s4 (by omega)) (hx5.up uc sb) ⟨Nat.le_trans hl5.1 (by omega), Nat.le_trans hl5.2 (by omega)⟩) ?_
    rintro v Uh6 D hU ⟨xh6, rfl, h6, rfl⟩
    repeat (first | refine run_S ?_ | refine w_box (fun _ => ?_) | refine w_al (fun _ => ?_))
    try refine run_s ?_
    refine sl_call rfl rfl rfl rfl rfl rfl (fun _ => rqAdd_ct (hs.rep.up uc sb) (hs.le sS (by omega)) (h6.rep.up uc sb) (h6.le (s4.mul (sy i hin)) (by omega))) ?_
    rintro v Uh7 D hU ⟨xh7, rfl, h7, rfl⟩
    repeat (first | refine run_S ?_ | refine w_box (fun _ => ?_) | refine w_al (fun _ => ?_))
    try refine run_s ?_
    exact sk_again (E' := [(9, .int .i64 ((i : Int) + 1)), (8, .pointer (some ⟨b8, 0, none⟩)), (7, .slice pz n cz), (2, .slice py n cy), (6, .pointer (some ⟨b6, 0, none⟩))]) (m := n - (i + 1)) ⟨rfl, rfl, rfl, rfl, rfl, trivial⟩ (by omega)
      ⟨i + 1, xh7, by omega, h7, rfl, uc, rfl, rfl⟩
  · have e : i = n := by omega
    subst e
    repeat (first | refine run_S ?_ | refine w_box (fun _ => ?_) | refine w_al (fun _ => ?_))
    exact sk_ret [] sym rfl (.cons (.cell 1 rfl rfl rfl) .nil) uc sb (.inl rfl) ⟨xs, rfl, hs.up uc sb, rfl⟩

theorem qsign_ne {q : Rat} : q.num.sign ≠ 0 ↔ q ≠ 0 := by
  constructor
  · intro h e; apply h; rw [e]; rfl
  · intro h e; exact h (Rat.num_eq_zero.1 (Int.sign_eq_zero_iff_zero.1 e))

theorem m9aniso_ct {n r rr : Nat} {va vl : Value} {A L : Nat → Nat → Rat} (ha : Vm (Wq 1) n n U va A) (hl : Ls (Vr n) 1 r U [] vl L) (hs : ∀ i j, i < r → j < n → Szq (L i j) rr) (hrr : rr ≤ 40000) (hn : n ≤ 5) (hr : r ≤ 5) :
    Ct Tryz.prog 98 [va, vl] G U M fun v U' D => ∃ (vv : Value) (ok : Bool), v = .tuple #[vv, .bool ok] ∧ (ok = true → ∃ f, Ls Vq 4 n U' [] vv f ∧ IsV r n L f ∧ La.bl n A f f ≠ 0) ∧
      (ok = false → vv = .slice none 0 0 ∧ (∀ i, i < r → La.bl n A (L i) (L i) = 0) ∧ ∀ i k, i < r → k < i → La.bl n A (fun j => L i j + 1 * L k j) (fun j => L i j + 1 * L k j) = 0) ∧ D = [] := by
  have hnn : n * n ≤ 5 * 5 := Nat.mul_le_mul hn hn
  have hz1 : n * (2 * 100000 + 1) ≤ 5 * 200001 := Nat.mul_le_mul hn (by omega)
  have hz0 : 1 + n * (2 * 100000 + 1) ≤ 10000000000 := by omega
  have hz2 : n * (2 * 100000 + 1) + 100000 + 2 ≤ 1100007 := Nat.le_trans (Nat.add_le_add_right (Nat.add_le_add_right hz1 100000) 2) (by decide)
  have hB : n * (n * (2 * 100000 + 1) + 100000 + 2) ≤ 30000000000 := Nat.le_trans (Nat.mul_le_mul hn hz2) (by decide)
  have ha2 := ha.mono (show 1 ≤ 100000 by decide)
  clear ha
  have ha3 := ha2
  obtain ⟨_, rfl, pa, cca, as1, rfl, -⟩ := ha3
  obtain ⟨pl, cl, ls, rfl, hcl, rl, el⟩ := hl
  refine ct_of_st Tryz.func98 rfl rfl rfl rfl ?_
  repeat (first | refine run_S ?_ | refine w_box (fun _ => ?_) | refine w_al (fun _ => ?_))
  rename_i b2
  refine st_loop (fun z E U' M' => ∃ i : Nat, i ≤ r ∧ (∀ a, a < i → La.bl n A (L a) (L a) = 0) ∧ (∀ a k, a < i → k < a → La.bl n A (fun j => L a j + 1 * L k j) (fun j => L a j + 1 * L k j) = 0) ∧ E = [(6, .int .i64 (i : Int)), (1, .slice pl r cl), (2, .pointer (some ⟨b2, 0, none⟩))] ∧ ULe U U' ∧ M' = (b2, .var (.agg #[.int .i64 (n : Int), .int .i64 (n : Int), .slice pa (n * n) cca]), TM) :: M ∧ z = r - i) (n0 := r)
    (E0 := [(6, .int .i64 ((0 : Nat) : Int)), (1, .slice pl r cl), (2, .pointer (some ⟨b2, 0, none⟩))]) ⟨rfl, rfl, rfl, trivial⟩ ⟨0, by omega, (fun a h => absurd h (Nat.not_lt_zero a)), (fun a k h => absurd h (Nat.not_lt_zero a)), rfl, uc, rfl, rfl⟩ ?_
  rintro z E U1 M' ⟨i, hi, h1, h2, rfl, hU1, rfl, rfl⟩
  try refine run_s ?_
  refine st_dec rfl (fun h => ?_) (fun h => ?_)
  · have hir : i < r := by omega
    obtain ⟨vi, hvi⟩ := rl.at hir
    have ei := el _ _ hvi
    obtain ⟨qi, ci, us, rfl, -⟩ := id ei
    try refine run_s ?_
    refine st_loop (fun z E U' M' => ∃ k : Nat, k ≤ i + 1 ∧ (k = i + 1 → La.bl n A (L i) (L i) = 0) ∧ (∀ c, c < k → c < i → La.bl n A (fun j => L i j + 1 * L c j) (fun j => L i j + 1 * L c j) = 0) ∧ E = [(7, .int .i64 (k : Int)), (6, .int .i64 (i : Int)), (1, .slice pl r cl), (2, .pointer (some ⟨b2, 0, none⟩))] ∧ ULe U1 U' ∧ M' = (b2, .var (.agg #[.int .i64 (n : Int), .int .i64 (n : Int), .slice pa (n * n) cca]), TM) :: M ∧ z = i + 1 - k) (n0 := i + 1)
      (E0 := [(7, .int .i64 ((0 : Nat) : Int)), (6, .int .i64 (i : Int)), (1, .slice pl r cl), (2, .pointer (some ⟨b2, 0, none⟩))]) ⟨rfl, rfl, rfl, rfl, trivial⟩ ⟨0, by omega, (fun h => absurd h (by omega)), (fun c h => absurd h (Nat.not_lt_zero c)), rfl, uc, rfl, rfl⟩ ?_
    rintro z E U2 M' ⟨k, hk, h3, h4, rfl, hU2, rfl, rfl⟩
    try refine run_s ?_
    refine st_dec rfl (fun h5 => ?_) (fun h5 => ?_)
    · have hki : k ≤ i := by omega
      have rl2 := rl.up (U' := U2) (M' := (b2, .var (.agg #[.int .i64 (n : Int), .int .i64 (n : Int), .slice pa (n * n) cca]), TM) :: M) uc (List.nil_sublist _)
      have hVi : Ls Vq 4 n U2 [] (.slice qi n ci) (L i) := Ls.up ei kept_q uc (List.Sublist.refl _)
      try refine run_s ?_
      refine sl_y (yl_index sym rfl rfl rfl rfl rfl rfl (rl2.lt hvi) (rl2.get _ _ hvi).1) rfl rfl rfl rfl ?_; refine sl_y (yl_loadR1 sym rfl rfl rfl rfl rl2 hvi rfl) rfl rfl rfl rfl ?_
      try refine run_o ?_
      refine st_seq_cut (fun E U' M' => ∃ (pv : Option Addr) (cv : Nat) (f : Nat → Rat), Ls Vq 4 n U' [] (.slice pv n cv) f ∧ IsV r n L f ∧ (k < i → ∀ j, j < n → f j = L i j + 1 * L k j) ∧ (k = i → f = L i) ∧ E = [(8, .slice pv n cv), (7, .int .i64 (k : Int)), (6, .int .i64 (i : Int)), (1, .slice pl r cl), (2, .pointer (some ⟨b2, 0, none⟩))] ∧ ULe U2 U' ∧ M' = (b2, .var (.agg #[.int .i64 (n : Int), .int .i64 (n : Int), .slice pa (n * n) cca]), TM) :: M) ?_ ?_
      · try refine run_s ?_
        refine st_dec rfl (fun h6 => ?_) (fun h6 => ?_)
        · have hkr : k < r := by omega
          obtain ⟨vk, hvk⟩ := rl.at hkr
          have ek := el _ _ hvk
          obtain ⟨qk, ck, ws, rfl, -⟩ := id ek
          try refine run_s ?_
          refine st_draw [0, 1, 2, 3, 5, 6, 7, 8, 4, 9, 10] sym (by kernel_rfl) ?_
          try refine run_s ?_
          refine sl_y (yl_index sym rfl rfl rfl rfl rfl rfl (rl2.lt hvi) (rl2.get _ _ hvi).1) rfl rfl rfl rfl ?_; refine sl_y (yl_loadR1 sym rfl rfl rfl rfl rl2 hvi rfl) rfl rfl rfl rfl ?_
          try refine run_s ?_
          refine sl_y (yl_index sym rfl rfl rfl rfl rfl rfl (rl2.lt hvk) (rl2.get _ _ hvk).1) rfl rfl rfl rfl ?_; refine sl_y (yl_loadR1 sym rfl rfl rfl rfl rl2 hvk rfl) rfl rfl rfl rfl ?_
          try refine run_s ?_
          refine sl_call rfl rfl rfl rfl rfl rfl (fun _ => rqOf_ct (z := 1) (by decide) (by decide)) ?_
          rintro v Uh7 D hU ⟨xh7, rfl, h7, rfl⟩
          repeat (first | refine run_S ?_ | refine w_box (fun _ => ?_) | refine w_al (fun _ => ?_))
          try refine run_s ?_
          refine sl_call rfl rfl rfl rfl rfl rfl (fun _ => (m9Combine_ct (b := 100000) (Ls.up (M' := _) (Ls.toW hVi fun j hj => (hs i j hir hj).mono (by omega)) kept_w uc (List.nil_sublist _)) (h7.rep.up uc sb) (h7.le szq_int1 (by decide)) (Ls.up (M' := _) (Ls.toW ek fun j hj => (hs k j hkr hj).mono (by omega)) kept_w uc (List.nil_sublist _)) (by decide) (by decide) (by omega)).setl kept_q) ?_
          rintro v8 U8 D8 hU8 ⟨h8, rfl⟩
          rw [List.nil_append]
          obtain ⟨p8, c8, w8, rfl, -⟩ := id h8
          try refine run_s ?_
          exact sk_cut (E' := [(8, .slice p8 n c8), (7, .int .i64 (k : Int)), (6, .int .i64 (i : Int)), (1, .slice pl r cl), (2, .pointer (some ⟨b2, 0, none⟩))]) ⟨rfl, rfl, rfl, rfl, rfl, trivial⟩
            ⟨p8, c8, _, h8, ⟨i, hir, .inr ⟨k, hkr, fun _ _ => rfl⟩⟩, (fun _ _ _ => rfl), (fun h => absurd h (by omega)), rfl, uc, rfl⟩
        · try refine run_s ?_
          exact sk_cut (E' := [(8, .slice qi n ci), (7, .int .i64 (k : Int)), (6, .int .i64 (i : Int)), (1, .slice pl r cl), (2, .pointer (some ⟨b2, 0, none⟩))]) ⟨rfl, rfl, rfl, rfl, rfl, trivial⟩
            ⟨qi, ci, L i, hVi, ⟨i, hir, .inl fun _ _ => rfl⟩, (fun h => absurd h (by omega)), (fun _ => rfl), rfl, uc, rfl⟩
      rintro E U3 M' ⟨pv, cv, f, hf, hv, hf1, hf2, rfl, hU3, rfl⟩
      have sf := hv.szq hs
      have hfW : Ls (Wq 100000) 4 n U3 [] (.slice pv n cv) f := Ls.toW hf fun j hj => (sf j hj).mono (by omega)
      try refine run_s ?_
      refine sl_call rfl rfl rfl rfl rfl rfl (fun _ => m9value_ct (b := 100000) (kept_m kept_w _ _ _ _ uc ha2) (Ls.up hfW kept_w uc (List.Sublist.refl _)) (Ls.up hfW kept_w uc (List.Sublist.refl _)) (by decide) hz0 hB (by decide) (by omega)) ?_
      rintro v9 U9 D9 hU9 ⟨x9, rfl, h9, rfl⟩
      rw [List.nil_append]
      have s9 : Szq (La.bl n A f f) (1 + 30000000000) := La.szq_bl (b := 100000) (fun i j hi hj => ha2.sz (by decide) hi hj) (fun j hj => (sf j hj).mono (by omega)) (fun j hj => (sf j hj).mono (by omega)) hB
      try refine run_s ?_
      refine sl_call rfl rfl rfl rfl rfl rfl (fun _ => rqSign_ct (h9.rep.up uc sb) (h9.le s9 (by decide))) ?_
      rintro v U' D hU ⟨rfl, rfl, rfl⟩
      repeat (first | refine run_S ?_ | refine w_box (fun _ => ?_) | refine w_al (fun _ => ?_))
      refine st_ne rfl (fun h10 => ?_) (fun h10 => ?_)
      · try refine run_s ?_
        exact sk_ret [] sym rfl (.cons (.tmp rfl) (.cons (.tmp rfl) .nil)) uc sb (.inl rfl) ⟨_, true, rfl, (fun _ => ⟨f, Ls.up hf kept_q uc (List.Sublist.refl _), hv, qsign_ne.1 h10⟩), (fun h => by cases h), rfl⟩
      · have h11 : La.bl n A f f = 0 := Classical.not_not.1 fun h => absurd h10 (qsign_ne.2 h)
        try refine run_s ?_
        refine sk_again (E' := [(7, .int .i64 ((k : Int) + 1)), (6, .int .i64 (i : Int)), (1, .slice pl r cl), (2, .pointer (some ⟨b2, 0, none⟩))]) (m := i + 1 - (k + 1)) ⟨rfl, rfl, rfl, rfl, trivial⟩ (by omega)
          ⟨k + 1, by omega, (fun h12 => by rw [← hf2 (by omega)]; exact h11), (fun c hc hci => ?_), rfl, uc, rfl, rfl⟩
        rcases Nat.lt_or_eq_of_le (Nat.le_of_lt_succ hc) with h12 | h12
        · exact h4 c h12 hci
        · subst h12
          rw [← h11]
          exact (La.bl_congr (fun _ _ _ _ => rfl) (hf1 hci) (hf1 hci)).symm
    · have e : k = i + 1 := by omega
      have h0 := h3 e
      have rl2 := rl.up (U' := U2) (M' := (b2, .var (.agg #[.int .i64 (n : Int), .int .i64 (n : Int), .slice pa (n * n) cca]), TM) :: M) uc (List.nil_sublist _)
      have hVi : Ls Vq 4 n U2 [] (.slice qi n ci) (L i) := Ls.up ei kept_q uc (List.Sublist.refl _)
      have hfW : Ls (Wq 100000) 4 n U2 [] (.slice qi n ci) (L i) := Ls.toW hVi fun j hj => (hs i j hir hj).mono (by omega)
      try refine run_s ?_
      refine st_draw [0, 1, 2, 3, 4, 5, 6, 7, 8, 9, 10, 11] sym (by kernel_rfl) ?_
      try refine run_s ?_
      refine sl_y (yl_index sym rfl rfl rfl rfl rfl rfl (rl2.lt hvi) (rl2.get _ _ hvi).1) rfl rfl rfl rfl ?_; refine sl_y (yl_loadR1 sym rfl rfl rfl rfl rl2 hvi rfl) rfl rfl rfl rfl ?_
      try refine run_s ?_
      refine sl_y (yl_index sym rfl rfl rfl rfl rfl rfl (rl2.lt hvi) (rl2.get _ _ hvi).1) rfl rfl rfl rfl ?_; refine sl_y (yl_loadR1 sym rfl rfl rfl rfl rl2 hvi rfl) rfl rfl rfl rfl ?_
      try refine run_s ?_
      refine sl_call rfl rfl rfl rfl rfl rfl (fun _ => m9value_ct (b := 100000) (kept_m kept_w _ _ _ _ uc ha2) (Ls.up hfW kept_w uc (List.Sublist.refl _)) (Ls.up hfW kept_w uc (List.Sublist.refl _)) (by decide) hz0 hB (by decide) (by omega)) ?_
      rintro v9 U9 D9 hU9 ⟨x9, rfl, h9, rfl⟩
      rw [List.nil_append]
      rw [h0] at h9
      try refine run_s ?_
      refine sl_call rfl rfl rfl rfl rfl rfl (fun _ => rqSign_ct (h9.rep.up uc sb) (h9.le szq_int0 (by decide))) ?_
      rintro v U' D hU ⟨rfl, rfl, rfl⟩
      repeat (first | refine run_S ?_ | refine w_box (fun _ => ?_) | refine w_al (fun _ => ?_))
      refine st_ne rfl (fun h10 => absurd rfl h10) (fun h10 => ?_)
      try refine run_s ?_
      refine sk_again (E' := [(6, .int .i64 ((i : Int) + 1)), (1, .slice pl r cl), (2, .pointer (some ⟨b2, 0, none⟩))]) (m := r - (i + 1)) ⟨rfl, rfl, rfl, trivial⟩ (by omega)
        ⟨i + 1, by omega, (fun a ha => ?_), (fun a c ha hc => ?_), rfl, uc, rfl, rfl⟩
      · rcases Nat.lt_or_eq_of_le (Nat.le_of_lt_succ ha) with h12 | h12
        · exact h1 a h12
        · subst h12; exact h0
      · rcases Nat.lt_or_eq_of_le (Nat.le_of_lt_succ ha) with h12 | h12
        · exact h2 a c h12 hc
        · subst h12; exact h4 c (by omega) hc
  · have e : i = r := by omega
    subst e
    try refine run_s ?_
    exact sk_ret [] sym rfl (.cons (.tmp rfl) (.cons (.tmp rfl) .nil)) uc sb (.inl rfl) ⟨_, false, rfl, (fun h => by cases h), (fun _ => ⟨rfl, h1, h2⟩), rfl⟩

end Go.Proofs.YtcfgogamamdipaaGreat
