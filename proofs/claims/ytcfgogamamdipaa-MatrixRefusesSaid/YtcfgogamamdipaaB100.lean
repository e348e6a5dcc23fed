/- Walks of the helpers of layer 9's statements: are matrices small? -/
import Derived.Test.YtcfgogamamdipaaB99
namespace Go.Proofs.Ytcfgogamamdipaa
open Go.Hp
variable {G : World} {U U' : UH} {M M' : MH}

/-- v stands for q, in digits that nobody has counted. -/
def Xq (U : UH) (v : Value) (q : Rat) : Prop := ∃ x : QV, v = x.v ∧ x.rep U [] q
theorem kept_x : Kept Xq := fun _ _ _ _ hU ⟨x, h1, h2⟩ => ⟨x, h1, h2.up hU (List.Sublist.refl _)⟩

theorem short9_ct {n c1 : Nat} {p1 : Option Addr} {as1 : List Value} {f : Nat → Rat} (ra : RowAt U M 4 p1 n as1) (ea : El Xq U as1 f) (hn : n ≤ 9223372036854775807) :
    Ct Try.prog 17 [.slice p1 n c1] G U M fun v U' D => ∃ b : Bool, v = .bool b ∧ (b = true → El (Wq 1) U as1 f) ∧ U = U' ∧ D = [] := by
  refine ct_of_st Try.func17 rfl rfl rfl rfl ?_
  try refine run_s ?_
  refine st_loop (fun z E U' M' => ∃ i : Nat, i ≤ n ∧ (∀ k x, k < i → as1[k]? = some x → Wq 1 U x (f k)) ∧ E = [(3, .int .i64 (i : Int)), (0, .slice p1 n c1)] ∧ U = U' ∧ M = M' ∧ z = n - i) (n0 := n)
    (E0 := [(3, .int .i64 ((0 : Nat) : Int)), (0, .slice p1 n c1)]) ⟨rfl, rfl, trivial⟩ ⟨0, by omega, (fun k x h => absurd h (Nat.not_lt_zero k)), rfl, rfl, rfl, rfl⟩ ?_
  rintro z E U' M' ⟨i, hi, hall, rfl, rfl, rfl, rfl⟩
  try refine run_s ?_
  refine st_dec rfl (fun h => ?_) (fun h => ?_)
  · have hin : i < n := by omega
    obtain ⟨v1, hv1⟩ := ra.at hin
    obtain ⟨x1, rfl, hx1⟩ := ea _ _ hv1
    try refine run_s ?_
    refine w_addr (j := i) hin (ra.get _ _ hv1).1 ?_
    try refine run_s ?_
    refine sl_y (yl_loadRc (j := 1) (u := .slice x1.num.p x1.num.n x1.num.c) sym rfl rfl (by rw [elt_add, elt_add]) rfl rfl ra hv1 rfl) rfl rfl rfl rfl ?_
    try refine run_s ?_
    refine sl_gdec rfl rfl (fun h1 => ?_) (fun h1 => ?_)
    · try refine run_s ?_
      exact sk_ret [] sym rfl (.cons (.tmp rfl) .nil) uc sb (.inl rfl) ⟨false, rfl, (fun h => by cases h), rfl, rfl⟩
    · try refine run_s ?_
      refine w_addr (j := i) hin (ra.get _ _ hv1).1 ?_
      try refine run_s ?_
      refine sl_y (yl_loadRc (j := 3) (u := .slice x1.den.p x1.den.n x1.den.c) sym rfl rfl (by rw [elt_add, elt_add]) rfl rfl ra hv1 rfl) rfl rfl rfl rfl ?_
      try refine run_s ?_
      refine st_dec rfl (fun h2 => ?_) (fun h2 => ?_)
      · try refine run_s ?_
        exact sk_ret [] sym rfl (.cons (.tmp rfl) .nil) uc sb (.inl rfl) ⟨false, rfl, (fun h => by cases h), rfl, rfl⟩
      · try refine run_s ?_
        exact sk_again (E' := [(3, .int .i64 ((i : Int) + 1)), (0, .slice p1 n c1)]) (m := n - (i + 1)) ⟨rfl, rfl, trivial⟩ (by omega)
          ⟨i + 1, by omega, (fun k x hk hx => by
            rcases Nat.lt_or_eq_of_le (Nat.le_of_lt_succ hk) with h3 | h3
            · exact hall k x h3 hx
            · subst h3
              rw [hv1] at hx
              cases hx
              exact ⟨x1, rfl, hx1, ⟨by omega, by omega⟩⟩), rfl, rfl, rfl, rfl⟩
  · have e : i = n := by omega
    subst e
    try refine run_s ?_
    exact sk_ret [] sym rfl (.cons (.tmp rfl) .nil) uc sb (.inl rfl) ⟨true, rfl, (fun _ k x hk => hall k x (ra.lt hk) hk), rfl, rfl⟩

/-- A matrix as it comes. -/
structure Raw (U : UH) (v : Value) (r c : Int) (n : Nat) (f : Nat → Rat) : Prop where
  rows : -9223372036854775808 ≤ r ∧ r ≤ 9223372036854775807
  cols : -9223372036854775808 ≤ c ∧ c ≤ 9223372036854775807
  num : n ≤ 9223372036854775807
  elt : ∃ a, v = .agg #[.int .i64 r, .int .i64 c, a] ∧ Ls Xq 4 n U [] a f

theorem Raw.up {v : Value} {r c : Int} {n : Nat} {f : Nat → Rat} (h : Raw U v r c n f) (hU : ULe U U') : Raw U' v r c n f := by
  obtain ⟨a, h1, h2⟩ := h.elt
  exact ⟨h.rows, h.cols, h.num, a, h1, h2.up kept_x hU (List.Sublist.refl _)⟩

/-- What 'light' tells of a matrix. -/
def Lit (most : Nat) (U : UH) (v : Value) (r c : Int) (n : Nat) (f : Nat → Rat) : Prop :=
  n ≤ most * most ∧ (Vld r c n → r ≤ most ∧ c ≤ most) ∧ ∃ a, v = .agg #[.int .i64 r, .int .i64 c, a] ∧ Ls (Wq 1) 4 n U [] a f

theorem light_ct {most m : Nat} {pl : Option Addr} {cl : Nat} {vs : List Value} {r c : Nat → Int} {n : Nat → Nat} {f : Nat → Nat → Rat} (rl : RowAt U M 3 pl m vs) (hv : ∀ k v, vs[k]? = some v → Raw U v (r k) (c k) (n k) (f k)) (hm : most ≤ 100) (hm2 : m ≤ 100) :
    Ct Try.prog 6 [.int .i64 (most : Int), .slice pl m cl] G U M fun v U' D => ∃ b : Bool, v = .bool b ∧ (b = true → ∀ k v, vs[k]? = some v → Lit most U v (r k) (c k) (n k) (f k)) ∧ U = U' ∧ D = [] := by
  have hmm : most * most ≤ 100 * 100 := Nat.mul_le_mul hm hm
  refine ct_of_st Try.func6 rfl rfl rfl rfl ?_
  try refine run_s ?_
  refine st_loop (fun z E U' M' => ∃ i : Nat, i ≤ m ∧ (∀ k v, k < i → vs[k]? = some v → Lit most U v (r k) (c k) (n k) (f k)) ∧ E = [(5, .int .i64 (i : Int)), (0, .int .i64 (most : Int)), (1, .slice pl m cl)] ∧ U = U' ∧ M = M' ∧ z = m - i) (n0 := m)
    (E0 := [(5, .int .i64 ((0 : Nat) : Int)), (0, .int .i64 (most : Int)), (1, .slice pl m cl)]) ⟨rfl, rfl, rfl, trivial⟩ ⟨0, by omega, (fun k x h => absurd h (Nat.not_lt_zero k)), rfl, rfl, rfl, rfl⟩ ?_
  rintro z E U' M' ⟨i, hi, hall, rfl, rfl, rfl, rfl⟩
  try refine run_s ?_
  refine st_dec rfl (fun h => ?_) (fun h => ?_)
  · have him : i < m := by omega
    obtain ⟨v1, hv1⟩ := rl.at him
    have hraw := hv _ _ hv1
    obtain ⟨hr, hc, hn, _, rfl, hls⟩ := hraw
    obtain ⟨p1, c1, as1, rfl, hc1, ra, ea⟩ := id hls
    have hp := (rl.get _ _ hv1).1
    try refine run_s ?_
    refine w_addr (j := i) him hp ?_
    try refine run_s ?_
    refine sl_y (yl_loadRc (j := 2) (u := .slice p1 (n i) c1) sym rfl rfl (by rw [elt_add]) rfl rfl rl hv1 rfl) rfl rfl rfl rfl ?_
    try refine run_s ?_
    refine sl_gdec rfl rfl (fun h1 => ?_) (fun h1 => ?_)
    · try refine run_s ?_
      exact sk_ret [] sym rfl (.cons (.tmp rfl) .nil) uc sb (.inl rfl) ⟨false, rfl, (fun h => by cases h), rfl, rfl⟩
    · try refine run_s ?_
      refine sl_y (yl_index sym rfl rfl rfl rfl rfl rfl (rl.lt hv1) (rl.get _ _ hv1).1) rfl rfl rfl rfl ?_; refine sl_y (yl_loadRs sym rfl rfl rfl rfl rfl rl hv1) rfl rfl rfl rfl ?_
      refine sl_call rfl rfl rfl rfl rfl rfl (fun _ => m9Valid_ct (r := r i) (c := c i) (p := p1) (cc := c1) hn) ?_
      rintro v U' D hU ⟨rfl, rfl, rfl⟩
      repeat (first | refine run_S ?_ | refine w_box (fun _ => ?_) | refine w_al (fun _ => ?_))
      by_cases hV : Vld (r i) (c i) (n i)
      · rw [decide_eq_true hV]
        try refine run_s ?_
        refine w_addr (j := i) him hp ?_
        try refine run_s ?_
        refine sl_y (yl_loadRc (j := 0) (u := .int .i64 (r i)) sym rfl rfl (by rw [elt_add]) rfl rfl rl hv1 rfl) rfl rfl rfl rfl ?_
        try refine run_s ?_
        refine sl_gdec rfl rfl (fun h2 => ?_) (fun h2 => ?_)
        · try refine run_s ?_
          exact sk_ret [] sym rfl (.cons (.tmp rfl) .nil) uc sb (.inl rfl) ⟨false, rfl, (fun h => by cases h), rfl, rfl⟩
        · try refine run_s ?_
          refine w_addr (j := i) him hp ?_
          try refine run_s ?_
          refine sl_y (yl_loadRc (j := 1) (u := .int .i64 (c i)) sym rfl rfl (by rw [elt_add]) rfl rfl rl hv1 rfl) rfl rfl rfl rfl ?_
          try refine run_s ?_
          refine sl_gdec rfl rfl (fun h3 => ?_) (fun h3 => ?_)
          · try refine run_s ?_
            exact sk_ret [] sym rfl (.cons (.tmp rfl) .nil) uc sb (.inl rfl) ⟨false, rfl, (fun h => by cases h), rfl, rfl⟩
          · try refine run_s ?_
            refine w_addr (j := i) him hp ?_
            try refine run_s ?_
            refine sl_y (yl_loadRc (j := 2) (u := .slice p1 (n i) c1) sym rfl rfl (by rw [elt_add]) rfl rfl rl hv1 rfl) rfl rfl rfl rfl ?_
            try refine run_s ?_
            refine sl_call rfl rfl rfl rfl rfl rfl (fun _ => short9_ct (ra.ls uc) ea (by omega)) ?_
            rintro v4 U4 D4 hU ⟨b, rfl, hb, rfl, rfl⟩
            cases b
            · try refine run_s ?_
              exact sk_ret [] sym rfl (.cons (.tmp rfl) .nil) uc sb (.inl rfl) ⟨false, rfl, (fun h => by cases h), rfl, rfl⟩
            · try refine run_s ?_
              exact sk_again (E' := [(5, .int .i64 ((i : Int) + 1)), (0, .int .i64 (most : Int)), (1, .slice pl m cl)]) (m := m - (i + 1)) ⟨rfl, rfl, rfl, trivial⟩ (by omega)
                ⟨i + 1, by omega, (fun k x hk hx => by
                  rcases Nat.lt_or_eq_of_le (Nat.le_of_lt_succ hk) with h3 | h3
                  · exact hall k x h3 hx
                  · subst h3
                    rw [hv1] at hx
                    cases hx
                    have hnb : n k ≤ most * most := by
                      have : ((n k : Nat) : Int) ≤ ((most * most : Nat) : Int) := by rw [Int.natCast_mul]; omega
                      omega
                    exact ⟨hnb, (fun _ => ⟨by omega, by omega⟩), _, rfl, p1, c1, as1, rfl, hc1, ra, hb rfl⟩), rfl, rfl, rfl, rfl⟩
      · rw [decide_eq_false hV]
        try refine run_s ?_
        refine w_addr (j := i) him hp ?_
        try refine run_s ?_
        refine sl_y (yl_loadRc (j := 2) (u := .slice p1 (n i) c1) sym rfl rfl (by rw [elt_add]) rfl rfl rl hv1 rfl) rfl rfl rfl rfl ?_
        try refine run_s ?_
        refine sl_call rfl rfl rfl rfl rfl rfl (fun _ => short9_ct (ra.ls uc) ea (by omega)) ?_
        rintro v4 U4 D4 hU ⟨b, rfl, hb, rfl, rfl⟩
        cases b
        · try refine run_s ?_
          exact sk_ret [] sym rfl (.cons (.tmp rfl) .nil) uc sb (.inl rfl) ⟨false, rfl, (fun h => by cases h), rfl, rfl⟩
        · try refine run_s ?_
          exact sk_again (E' := [(5, .int .i64 ((i : Int) + 1)), (0, .int .i64 (most : Int)), (1, .slice pl m cl)]) (m := m - (i + 1)) ⟨rfl, rfl, rfl, trivial⟩ (by omega)
            ⟨i + 1, by omega, (fun k x hk hx => by
              rcases Nat.lt_or_eq_of_le (Nat.le_of_lt_succ hk) with h3 | h3
              · exact hall k x h3 hx
              · subst h3
                rw [hv1] at hx
                cases hx
                have hnb : n k ≤ most * most := by
                  have : ((n k : Nat) : Int) ≤ ((most * most : Nat) : Int) := by rw [Int.natCast_mul]; omega
                  omega
                exact ⟨hnb, (fun h => absurd h hV), _, rfl, p1, c1, as1, rfl, hc1, ra, hb rfl⟩), rfl, rfl, rfl, rfl⟩
  · have e : i = m := by omega
    subst e
    try refine run_s ?_
    exact sk_ret [] sym rfl (.cons (.tmp rfl) .nil) uc sb (.inl rfl) ⟨true, rfl, (fun _ k v hk => hall k v (rl.lt hk) hk), rfl, rfl⟩

end Go.Proofs.Ytcfgogamamdipaa
