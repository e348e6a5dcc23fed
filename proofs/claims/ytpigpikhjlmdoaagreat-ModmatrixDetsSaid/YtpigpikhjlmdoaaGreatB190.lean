/- Walks of layer 13: Hadamard's bound, by the program; valid matrices of integers. -/
import Derived.Test.YtpigpikhjlmdoaaGreatM44
import Derived.Test.YtpigpikhjlmdoaaGreatM43
import Derived.Test.YtpigpikhjlmdoaaGreatB164
import Derived.Test.YtpigpikhjlmdoaaGreatM22
import Derived.Test.YtpigpikhjlmdoaaGreatM42
import Derived.Test.YtpigpikhjlmdoaaGreatB172
import Derived.Test.YtpigpikhjlmdoaaGreatCr
namespace Go.Proofs.YtpigpikhjlmdoaaGreat
open Go.Hp
variable {G : World} {U U' : UH} {M : MH}

theorem isq_ex : ∀ A : Nat, ∃ R : Nat, R * R ≤ A ∧ A < (R + 1) * (R + 1)
  | 0 => ⟨0, by decide, by decide⟩
  | A + 1 => by
    obtain ⟨R, h1, h2⟩ := isq_ex A
    by_cases h : A + 1 < (R + 1) * (R + 1)
    · exact ⟨R, by omega, h⟩
    · refine ⟨R + 1, by omega, ?_⟩
      have : (R + 1 + 1) * (R + 1 + 1) = (R + 1) * (R + 1) + (R + 1) + (R + 1) + 1 := by simp only [Nat.add_mul, Nat.mul_add]; omega
      omega
/-- The integer part of the square root. -/
noncomputable def isq (A : Nat) : Nat := Classical.choose (isq_ex A)
theorem isq_at {A R : Nat} (h1 : R * R ≤ A) (h2 : A < (R + 1) * (R + 1)) : R = isq A := root_uniq h1 h2 (Classical.choose_spec (isq_ex A)).1 (Classical.choose_spec (isq_ex A)).2
theorem isq_le {A : Nat} : isq A ≤ A := by
  have h := (Classical.choose_spec (isq_ex A)).1
  show isq A ≤ A
  rcases Nat.eq_zero_or_pos (isq A) with h0 | h0
  · omega
  · exact Nat.le_trans (Nat.le_mul_of_pos_left _ h0) h
/-- A row's factor in Hadamard's bound. -/
noncomputable def hrow (n : Nat) (f : Nat → Int) (i : Nat) : Int := ((isq (Lr.sm n fun j => f (i * n + j) * f (i * n + j)).natAbs + 1 : Nat) : Int)
theorem sm_sz {m k : Nat} {g : Nat → Int} (h : ∀ j, j < m → Sz (g j) k) : Sz (Lr.sm m g) (k + m) := by
  induction m with
  | zero => exact sz_le (z := 0) (u := 0) (by unfold Sz; exact Nat.pow_pos (by decide)) (Nat.le_refl _)
  | succ m ih => exact Sz.add (ih fun j hj => h j (by omega)) ((h m (by omega)).mono (Nat.le_add_right k m))
theorem sm_nn {m : Nat} {g : Nat → Int} (h : ∀ j, j < m → 0 ≤ g j) : 0 ≤ Lr.sm m g := by
  induction m with
  | zero => exact Int.le_refl 0
  | succ m ih => exact Int.add_nonneg (ih fun j hj => h j (by omega)) (h m (by omega))
theorem sq_nn (z : Int) : 0 ≤ z * z := by
  rcases Int.le_total 0 z with h | h
  · exact Int.mul_nonneg h h
  · exact Int.mul_nonneg_of_nonpos_of_nonpos h h
theorem pz_sz {m k : Nat} {g : Nat → Int} (h : ∀ j, j < m → Sz (g j) k) : Sz (La.pz m g) (k * m + 1) := by
  induction m with
  | zero => exact sz_one (by omega)
  | succ m ih =>
    refine Sz.mono (Sz.mul (ih fun j hj => h j (by omega)) (h m (by omega))) ?_
    rw [Nat.mul_add]
    omega
theorem hrow_sz {n : Nat} {f : Nat → Int} {i s : Nat} (hs : 1 ≤ s) (h : ∀ j, j < n → Sz (f (i * n + j)) s) : Sz (hrow n f i) (s + s + n + 1) := by
  have h1 := sm_sz fun j hj => (h j hj).mul (h j hj)
  have h2 : Sz ((isq (Lr.sm n fun j => f (i * n + j) * f (i * n + j)).natAbs : Nat) : Int) (s + s + n) := sz_le h1 (by have := @isq_le (Lr.sm n fun j => f (i * n + j) * f (i * n + j)).natAbs; omega)
  exact h2.add (sz_one (by omega))

theorem z12Valid_ct {r c : Int} {p : Option Addr} {n cc : Nat} (_ : n ≤ 9223372036854775807) :
    Ct Tryz.prog 30 [.agg #[.int .i64 r, .int .i64 c, .slice p n cc]] G U M fun v U' D => v = .bool (decide (Vld r c n)) ∧ U = U' ∧ D = [] := by
  refine ct_of_st Tryz.func30 rfl rfl rfl rfl ?_
  repeat (first | refine run_S ?_ | refine w_box (fun _ => ?_) | refine w_al (fun _ => ?_))
  refine sl_gdec rfl rfl (fun h1 => ?_) (fun h1 => ?_)
  · repeat (first | refine run_S ?_ | refine w_box (fun _ => ?_) | refine w_al (fun _ => ?_))
    refine sl_gdec rfl rfl (fun h2 => ?_) (fun h2 => ?_)
    · repeat (first | refine run_S ?_ | refine w_box (fun _ => ?_) | refine w_al (fun _ => ?_))
      refine sl_gdec rfl rfl (fun h3 => ?_) (fun h3 => ?_)
      · repeat (first | refine run_S ?_ | refine w_box (fun _ => ?_) | refine w_al (fun _ => ?_))
        refine sl_gdec rfl rfl (fun h4 => ?_) (fun h4 => ?_)
        · have h5 := mul_1024 h1 h2 h3 h4
          repeat (first | refine run_S ?_ | refine w_box (fun _ => ?_) | refine w_al (fun _ => ?_))
          refine sk_ret [] sym rfl (.cons (.tmp rfl) .nil) uc sb (.inl rfl) ⟨?_, rfl, rfl⟩
          show Value.bool (dec ((n : Int) = r * c)) = _
          rw [dec_eq]
          exact congrArg Value.bool (decide_eq_decide.2 ⟨fun h => ⟨h1, h2, h3, h4, h⟩, fun h => h.2.2.2.2⟩)
        · repeat (first | refine run_S ?_ | refine w_box (fun _ => ?_) | refine w_al (fun _ => ?_))
          exact sk_ret [] sym rfl (.cons (.tmp rfl) .nil) uc sb (.inl rfl) ⟨tup_f (fun h => h4 h.2.2.2.1), rfl, rfl⟩
      · repeat (first | refine run_S ?_ | refine w_box (fun _ => ?_) | refine w_al (fun _ => ?_))
        exact sk_ret [] sym rfl (.cons (.tmp rfl) .nil) uc sb (.inl rfl) ⟨tup_f (fun h => h3 h.2.2.1), rfl, rfl⟩
    · repeat (first | refine run_S ?_ | refine w_box (fun _ => ?_) | refine w_al (fun _ => ?_))
      exact sk_ret [] sym rfl (.cons (.tmp rfl) .nil) uc sb (.inl rfl) ⟨tup_f (fun h => h2 h.2.1), rfl, rfl⟩
  · repeat (first | refine run_S ?_ | refine w_box (fun _ => ?_) | refine w_al (fun _ => ?_))
    exact sk_ret [] sym rfl (.cons (.tmp rfl) .nil) uc sb (.inl rfl) ⟨tup_f (fun h => h1 h.1), rfl, rfl⟩

theorem whole_ct {r c : Int} {p : Option Addr} {n cc : Nat} (hn : n ≤ 9223372036854775807) :
    Ct Tryz.prog 68 [.agg #[.int .i64 r, .int .i64 c, .slice p n cc]] G U M fun v U' D => v = .int .i64 (if Vld r c n ∧ r = c then 0 else 4) ∧ U = U' ∧ D = [] := by
  refine ct_of_st Tryz.func68 rfl rfl rfl rfl ?_
  repeat (first | refine run_S ?_ | refine w_box (fun _ => ?_) | refine w_al (fun _ => ?_))
  refine sl_call rfl rfl rfl rfl rfl rfl (fun _ => ffits_ct (n := r)) ?_
  rintro v U' D hU ⟨rfl, rfl, rfl⟩
  repeat (first | refine run_S ?_ | refine w_box (fun _ => ?_) | refine w_al (fun _ => ?_))
  by_cases h1 : 0 ≤ r ∧ r ≤ 1024
  rotate_left
  · rw [decide_eq_false h1]
    repeat (first | refine run_S ?_ | refine w_box (fun _ => ?_) | refine w_al (fun _ => ?_))
    exact sk_ret [] sym rfl (.cons (.tmp rfl) .nil) uc sb (.inl rfl) ⟨by rw [if_neg fun h => h1 ⟨h.1.1, h.1.2.1⟩]; rfl, rfl, rfl⟩
  rw [decide_eq_true h1]
  repeat (first | refine run_S ?_ | refine w_box (fun _ => ?_) | refine w_al (fun _ => ?_))
  refine sl_gdec rfl rfl (fun h2 => ?_) (fun h2 => ?_)
  · repeat (first | refine run_S ?_ | refine w_box (fun _ => ?_) | refine w_al (fun _ => ?_))
    exact sk_ret [] sym rfl (.cons (.tmp rfl) .nil) uc sb (.inl rfl) ⟨by rw [if_neg fun h => h2 h.2]; rfl, rfl, rfl⟩
  obtain rfl : r = c := by omega
  have h5 := mul_1024 h1.1 h1.2 h1.1 h1.2
  repeat (first | refine run_S ?_ | refine w_box (fun _ => ?_) | refine w_al (fun _ => ?_))
  refine st_ne rfl (fun h3 => ?_) (fun h3 => ?_)
  · repeat (first | refine run_S ?_ | refine w_box (fun _ => ?_) | refine w_al (fun _ => ?_))
    exact sk_ret [] sym rfl (.cons (.tmp rfl) .nil) uc sb (.inl rfl) ⟨by rw [if_neg fun h => h3 h.1.2.2.2.2]; rfl, rfl, rfl⟩
  · repeat (first | refine run_S ?_ | refine w_box (fun _ => ?_) | refine w_al (fun _ => ?_))
    exact sk_ret [] sym rfl (.cons (.tmp rfl) .nil) uc sb (.inl rfl) ⟨by rw [if_pos ⟨⟨h1.1, h1.2, h1.1, h1.2, by omega⟩, rfl⟩]; rfl, rfl, rfl⟩

theorem fHadamard_no {r c : Int} {p : Option Addr} {n cc : Nat} (hn : n ≤ 9223372036854775807) (h : ¬ (Vld r c n ∧ r = c)) :
    Ct Tryz.prog 31 [.agg #[.int .i64 r, .int .i64 c, .slice p n cc]] G U M fun v U' D => v = .tuple #[zeroIV.v, .int .i64 4] ∧ ULe U U' ∧ D = [] := by
  refine ct_of_st Tryz.func31 rfl rfl rfl rfl ?_
  repeat (first | refine run_S ?_ | refine w_box (fun _ => ?_) | refine w_al (fun _ => ?_))
  refine sl_call rfl rfl rfl rfl rfl rfl (fun _ => whole_ct (r := r) (c := c) (p := p) (n := n) (cc := cc) hn) ?_
  rintro v U' D hU ⟨rfl, rfl, rfl⟩
  repeat (first | refine run_S ?_ | refine w_box (fun _ => ?_) | refine w_al (fun _ => ?_))
  rw [if_neg h]
  repeat (first | refine run_S ?_ | refine w_box (fun _ => ?_) | refine w_al (fun _ => ?_))
  refine st_ne rfl (fun _ => ?_) (fun h => absurd h (by decide))
  repeat (first | refine run_S ?_ | refine w_box (fun _ => ?_) | refine w_al (fun _ => ?_))
  exact sk_ret [] sym rfl (.cons (.cell 0 rfl rfl rfl) (.cons (.tmp rfl) .nil)) uc sb (.inl rfl) ⟨rfl, uc, rfl⟩

theorem fHadamard_ct {n cc : Nat} {p : Option Addr} {vs : List Value} {f : Nat → Int} (rw1 : RowAt U [] 2 p (n * n) vs) (el : El (Xw 2) U vs f) (hcc : n * n ≤ cc) (hn : n ≤ 6) :
    Ct Tryz.prog 31 [.agg #[.int .i64 (n : Int), .int .i64 (n : Int), .slice p (n * n) cc]] G U M fun v U' D => ∃ x : IV, v = .tuple #[x.v, .int .i64 0] ∧ x.nrm U' [] (La.pz n (hrow n f)) ∧ D = [] := by
  have hnn : n * n ≤ 6 * 6 := Nat.mul_le_mul hn hn
  have s1 : Sz (1 : Int) 1 := by unfold Sz; decide
  have hsz : ∀ k, k < n * n → Sz (f k) 2 := fun k hk => by
    obtain ⟨v1, hv1⟩ := rw1.at hk
    obtain ⟨x1, rfl, hx1, hn1⟩ := el _ _ hv1
    exact hx1.sz hn1
  have hsz2 : ∀ i j, i < n → j < n → Sz (f (i * n + j)) 2 := fun i j hi hj => hsz _ (ij_lt hi hj)
  refine ct_of_st Tryz.func31 rfl rfl rfl rfl ?_
  repeat (first | refine run_S ?_ | refine w_box (fun _ => ?_) | refine w_al (fun _ => ?_))
  rename_i b1 b2
  refine sl_call rfl rfl rfl rfl rfl rfl (fun _ => whole_ct (r := (n : Int)) (c := (n : Int)) (p := p) (n := n * n) (cc := cc) (by omega)) ?_
  rintro v U' D hU ⟨rfl, rfl, rfl⟩
  repeat (first | refine run_S ?_ | refine w_box (fun _ => ?_) | refine w_al (fun _ => ?_))
  rw [if_pos ⟨vld_of (r := n) (c := n) (by omega) (by omega), rfl⟩]
  repeat (first | refine run_S ?_ | refine w_box (fun _ => ?_) | refine w_al (fun _ => ?_))
  refine st_ne rfl (fun h => absurd rfl h) (fun _ => ?_)
  repeat (first | refine run_S ?_ | refine w_box (fun _ => ?_) | refine w_al (fun _ => ?_))
  refine sl_call rfl rfl rfl rfl rfl rfl (fun _ => (Of_ct (z := 1) (by decide) (by decide)).settle) ?_
  rintro v Uh3 D hU ⟨rfl, _, _, ⟨xh3, rfl, h3, -⟩, -, -, hs⟩
  replace h3 := h3.sett hs
  clear hs
  repeat (first | refine run_S ?_ | refine w_box (fun _ => ?_) | refine w_al (fun _ => ?_))
  rename_i b5
  try refine st_anti (M' := (b5, .var xh3.v, 67) :: (b2, .var zeroIV.v, 67) :: (b1, .var (.agg #[.int .i64 (n : Int), .int .i64 (n : Int), .slice p (n * n) cc]), 63) :: M) (ULe.refl _) sbk ?_
  refine st_loop (fun z E U' M' => ∃ (i : Nat) (xo : IV), i ≤ n ∧ xo.nrm U' [] (La.pz i (hrow n f)) ∧ E = [(6, .int .i64 (i : Int)), (5, .pointer (some ⟨b5, 0, none⟩)), (2, .pointer (some ⟨b2, 0, none⟩)), (1, .pointer (some ⟨b1, 0, none⟩))] ∧ ULe U U' ∧ M' = (b5, .var xo.v, 67) :: (b2, .var zeroIV.v, 67) :: (b1, .var (.agg #[.int .i64 (n : Int), .int .i64 (n : Int), .slice p (n * n) cc]), 63) :: M ∧ z = n - i) (n0 := n - 0) (E0 := [(6, .int .i64 ((0 : Nat) : Int)), (5, .pointer (some ⟨b5, 0, none⟩)), (2, .pointer (some ⟨b2, 0, none⟩)), (1, .pointer (some ⟨b1, 0, none⟩))]) ⟨rfl, rfl, rfl, rfl, trivial⟩ ⟨0, xh3, by omega, h3, rfl, uc, rfl, rfl⟩ ?_
  rintro z E U1 M' ⟨i, xo, hi, hxo, rfl, hU1, rfl, rfl⟩
  try refine run_s ?_
  refine st_dec rfl (fun h => ?_) (fun h => ?_)
  · have hin : i < n := by omega
    repeat (first | refine run_S ?_ | refine w_box (fun _ => ?_) | refine w_al (fun _ => ?_))
    have hlt : i * n + n ≤ n * n := by
      have := Nat.mul_le_mul_right n (show i + 1 ≤ n by omega)
      rwa [Nat.add_mul, Nat.one_mul] at this
    refine sl_call rfl rfl rfl rfl rfl rfl (fun _ => (Of_ct (z := 0) (by decide) (by decide)).settle) ?_
    rintro v Uh7 D hU ⟨rfl, _, _, ⟨xh7, rfl, h7, -⟩, -, -, hs⟩
    replace h7 := h7.sett hs
    clear hs
    repeat (first | refine run_S ?_ | refine w_box (fun _ => ?_) | refine w_al (fun _ => ?_))
    rename_i b7
    have e1 : (i : Int) * (n : Int) = ((i * n : Nat) : Int) := (Int.natCast_mul i n).symm
    have e2 : IntKind.i64.wrap (((i : Int) + 1) * (n : Int)) = ((i * n + n : Nat) : Int) := by
      rw [show ((i : Int) + 1) * (n : Int) = ((i * n + n : Nat) : Int) by rw [Int.add_mul, Int.one_mul, Int.natCast_add, Int.natCast_mul]]
      exact wrap_in (by omega) (by simp only [kmax]; omega)
    repeat (first | refine run_S ?_ | refine w_box (fun _ => ?_) | refine w_al (fun _ => ?_))
    refine sl_y (yl_slice (l := i * n) (h := i * n + n) sym rfl rfl rfl rfl (.inr ⟨_, _, _, rfl, rfl, e1⟩) (.inr ⟨_, _, _, rfl, rfl, e2⟩) (by omega) (by omega)) rfl rfl rfl rfl ?_
    have hpart := rw1.part (lo := i * n) (hi := i * n + n) (by omega) hlt hcc
    have e3 : i * n + n - i * n = n := by omega
    rw [e3] at hpart ⊢
    generalize (if cc = i * n then p else p.map (·.add (i * n * 2))) = p3 at hpart ⊢
    have elp : El (Xw 2) U ((vs.drop (i * n)).take n) (fun j => f (i * n + j)) := fun k x hk => by
      have hkn := hpart.lt hk
      rw [List.getElem?_take_of_lt hkn, List.getElem?_drop] at hk
      exact el _ _ hk
    generalize (vs.drop (i * n)).take n = vs3 at hpart elp
    repeat (first | refine run_S ?_ | refine w_box (fun _ => ?_) | refine w_al (fun _ => ?_))
    try refine st_anti (M' := (b7, .var xh7.v, 67) :: (b5, .var xo.v, 67) :: (b2, .var zeroIV.v, 67) :: (b1, .var (.agg #[.int .i64 (n : Int), .int .i64 (n : Int), .slice p (n * n) cc]), 63) :: M) (ULe.refl _) sbk ?_
    refine st_loop (fun z E U' M' => ∃ (j : Nat) (xs : IV), j ≤ n ∧ xs.nrm U' [] (Lr.sm j fun k => f (i * n + k) * f (i * n + k)) ∧ E = [(38, .slice p3 n (cc - i * n)), (39, .int .i64 (n : Int)), (40, .int .i64 (j : Int)), (7, .pointer (some ⟨b7, 0, none⟩)), (6, .int .i64 (i : Int)), (5, .pointer (some ⟨b5, 0, none⟩)), (2, .pointer (some ⟨b2, 0, none⟩)), (1, .pointer (some ⟨b1, 0, none⟩))] ∧ ULe Uh7 U' ∧ M' = (b7, .var xs.v, 67) :: (b5, .var xo.v, 67) :: (b2, .var zeroIV.v, 67) :: (b1, .var (.agg #[.int .i64 (n : Int), .int .i64 (n : Int), .slice p (n * n) cc]), 63) :: M ∧ z = n - j) (n0 := n - 0) (E0 := [(38, .slice p3 n (cc - i * n)), (39, .int .i64 (n : Int)), (40, .int .i64 ((0 : Nat) : Int)), (7, .pointer (some ⟨b7, 0, none⟩)), (6, .int .i64 (i : Int)), (5, .pointer (some ⟨b5, 0, none⟩)), (2, .pointer (some ⟨b2, 0, none⟩)), (1, .pointer (some ⟨b1, 0, none⟩))]) ⟨rfl, rfl, rfl, rfl, rfl, rfl, rfl, rfl, trivial⟩ ⟨0, xh7, by omega, h7, rfl, uc, rfl, rfl⟩ ?_
    rintro z E U2 M' ⟨j, xs, hj, hxs, rfl, hU2, rfl, rfl⟩
    try refine run_s ?_
    refine st_dec rfl (fun h2 => ?_) (fun h2 => ?_)
    · have hjn : j < n := by omega
      obtain ⟨v1, hv1⟩ := hpart.at hjn
      obtain ⟨x1, rfl, hx1, hn1⟩ := elp _ _ hv1
      have hp1 := (hpart.get _ _ hv1).1
      have ss : Sz (Lr.sm j fun k => f (i * n + k) * f (i * n + k)) (2 + 2 + j) := sm_sz fun k hk => (hsz2 i k hin (by omega)).mul (hsz2 i k hin (by omega))
      have s4 := (hsz2 i j hin hjn).mul (hsz2 i j hin hjn)
      repeat (first | refine run_S ?_ | refine w_box (fun _ => ?_) | refine w_al (fun _ => ?_))
      refine w_addr (j := j) hjn hp1 ?_
      refine sl_y (yl_loadRs sym rfl rfl rfl rfl rfl (hpart.up uc sb) hv1) rfl rfl rfl rfl ?_
      repeat (first | refine run_S ?_ | refine w_box (fun _ => ?_) | refine w_al (fun _ => ?_))
      rename_i b9
      refine st_drawM [4, 5] [0, 1, 2, 3, 4, 5] sym (by kernel_rfl) ?_
      repeat (first | refine run_S ?_ | refine w_box (fun _ => ?_) | refine w_al (fun _ => ?_))
      refine sl_call rfl rfl rfl rfl rfl rfl (fun _ => (Mul_ct (hx1.up uc (List.nil_sublist _)) (by omega) (hx1.up uc (List.nil_sublist _)) (by omega)).settle) ?_
      rintro v Uh10 D hU ⟨rfl, _, _, ⟨xh10, rfl, h10, -⟩, -, -, hs⟩
      replace h10 := h10.sett hs
      clear hs
      repeat (first | refine run_S ?_ | refine w_box (fun _ => ?_) | refine w_al (fun _ => ?_))
      refine sl_call rfl rfl rfl rfl rfl rfl (fun _ => (Add_ct (hxs.rep.up uc (List.nil_sublist _)) (hxs.le ss (by omega)) (h10.rep.up uc (List.nil_sublist _)) (h10.le s4 (by omega))).settle) ?_
      rintro v Uh11 D hU ⟨rfl, _, _, ⟨xh11, rfl, h11, -⟩, -, -, hs⟩
      replace h11 := h11.sett hs
      clear hs
      repeat (first | refine run_S ?_ | refine w_box (fun _ => ?_) | refine w_al (fun _ => ?_))
      repeat (first | refine run_S ?_ | refine w_box (fun _ => ?_) | refine w_al (fun _ => ?_))
      refine sk_anti (M' := (b7, .var xh11.v, 67) :: (b5, .var xo.v, 67) :: (b2, .var zeroIV.v, 67) :: (b1, .var (.agg #[.int .i64 (n : Int), .int .i64 (n : Int), .slice p (n * n) cc]), 63) :: M) (ULe.refl _) sbk ?_
      exact sk_again (E' := [(38, .slice p3 n (cc - i * n)), (39, .int .i64 (n : Int)), (40, .int .i64 ((j : Int) + 1)), (7, .pointer (some ⟨b7, 0, none⟩)), (6, .int .i64 (i : Int)), (5, .pointer (some ⟨b5, 0, none⟩)), (2, .pointer (some ⟨b2, 0, none⟩)), (1, .pointer (some ⟨b1, 0, none⟩))]) (m := n - (j + 1)) ⟨rfl, rfl, rfl, rfl, rfl, rfl, rfl, rfl, trivial⟩ (by omega) ⟨j + 1, xh11, by omega, h11, rfl, uc, rfl, rfl⟩
    · obtain rfl : n = j := by omega
      have ss : Sz (Lr.sm n fun k => f (i * n + k) * f (i * n + k)) (2 + 2 + n) := sm_sz fun k hk => (hsz2 i k hin hk).mul (hsz2 i k hin hk)
      have s0 : 0 ≤ Lr.sm n fun k => f (i * n + k) * f (i * n + k) := sm_nn fun k _ => sq_nn _
      have so : Sz (La.pz i (hrow n f)) (12 * i + 1) := pz_sz fun k hk => (hrow_sz (by decide) fun l hl => hsz2 k l (by omega) hl).mono (by omega)
      have sr := hrow_sz (s := 2) (i := i) (f := f) (n := n) (by decide) fun l hl => hsz2 i l hin hl
      repeat (first | refine run_S ?_ | refine w_box (fun _ => ?_) | refine w_al (fun _ => ?_))
      refine sl_call rfl rfl rfl rfl rfl rfl (fun _ => Sqrt_st (hxs.rep.up uc (List.nil_sublist _)) (hxs.le ss (by omega)) s0) ?_
      rintro v4 U4 D4 hU4 ⟨xr, bb, R, rfl, hr, g1, g2, -, rfl⟩
      try rw [List.nil_append]
      repeat (first | refine run_S ?_ | refine w_box (fun _ => ?_) | refine w_al (fun _ => ?_))
      obtain rfl := isq_at g1 g2
      have s5 : Sz ((isq (Lr.sm n fun k => f (i * n + k) * f (i * n + k)).natAbs : Nat) : Int) (2 + 2 + n) := sz_le ss (by have := @isq_le (Lr.sm n fun k => f (i * n + k) * f (i * n + k)).natAbs; omega)
      repeat (first | refine run_S ?_ | refine w_box (fun _ => ?_) | refine w_al (fun _ => ?_))
      rename_i b10
      refine st_drawM [4, 5] [0, 1, 2, 3, 4, 5] sym (by kernel_rfl) ?_
      repeat (first | refine run_S ?_ | refine w_box (fun _ => ?_) | refine w_al (fun _ => ?_))
      refine sl_call rfl rfl rfl rfl rfl rfl (fun _ => (Of_ct (z := 1) (by decide) (by decide)).settle) ?_
      rintro v Uh12 D hU ⟨rfl, _, _, ⟨xh12, rfl, h12, -⟩, -, -, hs⟩
      replace h12 := h12.sett hs
      clear hs
      repeat (first | refine run_S ?_ | refine w_box (fun _ => ?_) | refine w_al (fun _ => ?_))
      refine sl_call rfl rfl rfl rfl rfl rfl (fun _ => (Add_ct (hr.rep.up uc (List.nil_sublist _)) (hr.le s5 (by omega)) (h12.rep.up uc (List.nil_sublist _)) (h12.le s1 (by omega))).settle) ?_
      rintro v Uh13 D hU ⟨rfl, _, _, ⟨xh13, rfl, h13, -⟩, -, -, hs⟩
      replace h13 := h13.sett hs
      clear hs
      repeat (first | refine run_S ?_ | refine w_box (fun _ => ?_) | refine w_al (fun _ => ?_))
      refine sl_call rfl rfl rfl rfl rfl rfl (fun _ => (Mul_ct (hxo.rep.up uc (List.nil_sublist _)) (hxo.le so (by omega)) (h13.rep.up uc (List.nil_sublist _)) (h13.le sr (by omega))).settle) ?_
      rintro v Uh14 D hU ⟨rfl, _, _, ⟨xh14, rfl, h14, -⟩, -, -, hs⟩
      replace h14 := h14.sett hs
      clear hs
      repeat (first | refine run_S ?_ | refine w_box (fun _ => ?_) | refine w_al (fun _ => ?_))
      repeat (first | refine run_S ?_ | refine w_box (fun _ => ?_) | refine w_al (fun _ => ?_))
      refine sk_anti (M' := (b5, .var xh14.v, 67) :: (b2, .var zeroIV.v, 67) :: (b1, .var (.agg #[.int .i64 (n : Int), .int .i64 (n : Int), .slice p (n * n) cc]), 63) :: M) (ULe.refl _) sbk ?_
      exact sk_again (E' := [(6, .int .i64 ((i : Int) + 1)), (5, .pointer (some ⟨b5, 0, none⟩)), (2, .pointer (some ⟨b2, 0, none⟩)), (1, .pointer (some ⟨b1, 0, none⟩))]) (m := n - (i + 1)) ⟨rfl, rfl, rfl, rfl, trivial⟩ (by omega) ⟨i + 1, xh14, by omega, h14, rfl, uc, rfl, rfl⟩
  · obtain rfl : n = i := by omega
    repeat (first | refine run_S ?_ | refine w_box (fun _ => ?_) | refine w_al (fun _ => ?_))
    exact sk_ret [] sym rfl (.cons (.cell 1 rfl rfl rfl) (.cons (.tmp rfl) .nil)) uc sb (.inl rfl) ⟨xo, rfl, hxo.up uc (List.Sublist.refl _), rfl⟩
end Go.Proofs.YtpigpikhjlmdoaaGreat
