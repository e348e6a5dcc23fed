/- Texts of this seat's own, merged: each begins with its own remark. -/
import Derived.Test.YtjfkodlddladhaaGreatM56
import Derived.Test.YtjfkodlddladhaaGreatM50
import Derived.Test.YtjfkodlddladhaaGreatRt
/- Walks of layer 36: Vectors of the program. -/
namespace Go.Proofs.YtjfkodlddladhaaGreat
open Go.Hp
variable {G : World} {U U' : UH} {M : MH}
abbrev TIss : Nat := 49
theorem idx_pre {p : Nat → Bool} : ∀ {k N : Nat}, k ≤ N → ∃ r, Bx.idx p N = Bx.idx p k ++ r
  | k, 0, h => by
    obtain rfl : k = 0 := by omega
    exact ⟨[], rfl⟩
  | k, N + 1, h => by
    by_cases e : k = N + 1
    · subst e; exact ⟨[], (List.append_nil _).symm⟩
    · obtain ⟨r, hr⟩ := idx_pre (p := p) (show k ≤ N by omega)
      rw [Bx.idx_next]
      split
      · exact ⟨r ++ [N], by rw [hr, List.append_assoc]⟩
      · exact ⟨r, hr⟩
theorem idx_at {p : Nat → Bool} {k N : Nat} (hk : k < N) (hp : p k = true) : (Bx.idx p (k + 1)).length = (Bx.idx p k).length + 1 ∧ (Bx.idx p N).getD (Bx.idx p k).length 0 = k := by
  have h1 : Bx.idx p (k + 1) = Bx.idx p k ++ [k] := by rw [Bx.idx_next, if_pos hp]
  obtain ⟨r, hr⟩ := idx_pre (p := p) (show k + 1 ≤ N by omega)
  refine ⟨by rw [h1, List.length_append]; rfl, ?_⟩
  rw [hr, h1, List.append_assoc, List.getD_eq_getElem?_getD, List.getElem?_append_right (Nat.le_refl _), Nat.sub_self]
  rfl
theorem idx_no {p : Nat → Bool} {k : Nat} (hp : p k = false) : Bx.idx p (k + 1) = Bx.idx p k := by rw [Bx.idx_next, if_neg (by rw [hp]; decide)]
def VecI (n : Nat) (A : Nat → Nat → Int) (b9 b3 : Nat) (m : Int) (X : MH) (U : UH) (t : Nat) (L : MH) : Prop :=
  ∃ (Q : Option Addr) (C : Nat) (svs : List Value) (Do : MH) (F : List MH), L = (b9, .var (.slice Q t C), TIss) :: (b3, .var (.int .i64 m), TInt) :: (Do ++ (F.flatten ++ X)) ∧ RowO TIs 1 Do Q t C svs ∧ Gz Vz zO n U svs F A
theorem tv1_cx {n t c q b9 b3 : Nat} {m : Int} {px : Option Addr} {xs : List Value} {A : Nat → Nat → Int} {E X L : MH} (hx : RowAt U E 1 px n xs) (hI : VecI n A b9 b3 m X U t L) (hel : (q : Int) = m → El Vz U xs (A t)) (ht : t ≤ 1048576) (hn : n ≤ 8) :
    Cx Tryz.prog 62 [.slice px n c, .int .i64 (q : Int), .pointer (some ⟨b3, 0, none⟩), .pointer (some ⟨b9, 0, none⟩)] G U (E ++ L)
      fun _ U' M' => ∃ L', M' = E ++ L' ∧ VecI n A b9 b3 m X U' (if (q : Int) = m then t + 1 else t) L' := by
  obtain ⟨Q, C, svs, Do, F, rfl, hrow, hg⟩ := hI
  refine ((?_ : Cx Tryz.prog 62 [.slice px n c, .int .i64 (q : Int), .pointer (some ⟨b3, 0, none⟩), .pointer (some ⟨b9, 0, none⟩)] G U ((b9, .var (.slice Q t C), TIss) :: (b3, .var (.int .i64 m), TInt) :: (Do ++ (F.flatten ++ (E ++ X)))) (fun _ U' M' => ∃ (Q : Option Addr) (C : Nat) (svs : List Value) (Do : MH) (F : List MH), M' = (b9, .var (.slice Q (if (q : Int) = m then t + 1 else t) C), TIss) :: (b3, .var (.int .i64 m), TInt) :: (Do ++ (F.flatten ++ (E ++ X))) ∧ RowO TIs 1 Do Q (if (q : Int) = m then t + 1 else t) C svs ∧ Gz Vz zO n U' svs F A)).perm pgj).out fun v U' M' hU' hR => ?_
  · refine cx_of_st Tryz.func62 rfl rfl rfl rfl ?_
    repeat (first | refine run_S ?_ | refine w_box (fun _ => ?_) | refine w_al (fun _ => ?_))
    refine st_eq rfl (fun h => ?_) (fun h => ?_)
    · repeat (first | refine run_S ?_ | refine w_box (fun _ => ?_) | refine w_al (fun _ => ?_))
      refine st_drawM [5, 6] [0, 2, 1, 3, 4, 5, 6] sym (by kernel_rfl) ?_
      repeat (first | refine run_S ?_ | refine w_box (fun _ => ?_) | refine w_al (fun _ => ?_))
      refine w_bs0 (fun b10 => ?_)
      try refine run_s ?_
      have hel' := hel h
      have hlen := hrow.len
      refine w_app0 (hx.up uc sb) (El.ones hel' fun _ _ h => one_z h) (fun q4 c4 D4 hr4 => ?_)
      try refine run_s ?_
      refine w_push hrow (X := D4 ++ ((b10, .arr [], TInt) :: (b9, .var (.slice Q t C), TIss) :: (b3, .var (.int .i64 m), TInt) :: (F.flatten ++ (E ++ X)))) pgj (fun b P2 C2 D2 hr2 => ?_)
      refine sl_perm (M' := (b9, .var (.slice Q t C), TIss) :: (b3, .var (.int .i64 m), TInt) :: (b10, .arr [], TInt) :: (D2 ++ ((F ++ [D4]).flatten ++ (E ++ X)))) ?_ pgj
      repeat (first | refine run_S ?_ | refine w_box (fun _ => ?_) | refine w_al (fun _ => ?_))
      have hg2 := hg.snoc (n := t) hlen.1 hr4.len.2.1 hr4 hel'
      refine sk_retX (M' := (b9, .var (.slice P2 (t + 1) C2), TIss) :: (b3, .var (.int .i64 m), TInt) :: (D2 ++ ((F ++ [D4]).flatten ++ (E ++ X)))) sym rfl .nil uc (List.Sublist.cons_cons _ (List.Sublist.cons_cons _ (List.Sublist.cons _ (List.Sublist.refl _)))) (.inr rfl) ⟨P2, C2, _, D2, F ++ [D4], ?_, ?_, hg2⟩
      · rw [if_pos h]
      · rw [if_pos h]; exact hr2
    · repeat (first | refine run_S ?_ | refine w_box (fun _ => ?_) | refine w_al (fun _ => ?_))
      refine sk_retX sym rfl .nil uc (List.Sublist.refl _) (.inr rfl) ⟨Q, C, svs, Do, F, ?_, ?_, hg⟩
      · rw [if_neg h]
      · rw [if_neg h]; exact hrow
  · obtain ⟨Q, C, svs, Do, F, rfl, h1, h2⟩ := hR
    exact ⟨E ++ ((b9, .var (.slice Q (if (q : Int) = m then t + 1 else t) C), TIss) :: (b3, .var (.int .i64 m), TInt) :: (Do ++ (F.flatten ++ X))), pgj, _, rfl, Q, C, svs, Do, F, rfl, h1, h2⟩
def pv (n : Nat) (f : Nat → Int) (b : Nat → Nat) (m : Nat) : Nat → Bool := fun k => vn n f b k == m
def vv (n : Nat) (f : Nat → Int) (b : Nat → Nat) (m : Nat) : Nat → Nat → Int := fun i => Bx.vec b n ((Bx.idx (pv n f b m) (Bx.pre b n)).getD i 0)
def VecO (n : Nat) (f : Nat → Int) (m : Nat) (U : UH) (v : Value) : Prop :=
  ∃ X, Inv n f X ∧ (Bx.pre (bd X m) n ≤ 1048576 → ∃ s, v = .tuple #[s, .int .i64 0] ∧ Ls (Vrs Vz n) 1 (Bx.idx (pv n f (bd X m) m) (Bx.pre (bd X m) n)).length U [] s (vv n f (bd X m) m)) ∧
    (1048576 < Bx.pre (bd X m) n → v = .tuple #[.slice none 0 0, .int .i64 7])
theorem idx_le (p : Nat → Bool) (N : Nat) : (Bx.idx p N).length ≤ N := by rw [Bx.idx_len]; exact cnt_le p N
def VecC (n : Nat) (f : Nat → Int) (m : Nat) (U : UH) (D : MH) (v : Value) : Prop :=
  ∃ X, Inv n f X ∧ (Bx.pre (bd X m) n ≤ 1048576 → ∃ s, v = .tuple #[s, .int .i64 0] ∧ Goz Vz zO (Bx.idx (pv n f (bd X m) m) (Bx.pre (bd X m) n)).length n U D s (vv n f (bd X m) m)) ∧
    (1048576 < Bx.pre (bd X m) n → v = .tuple #[.slice none 0 0, .int .i64 7])
theorem tVectors_co {r m : Int} {N c : Nat} {p : Option Addr} {vs : List Value} {f : Nat → Int} (rw1 : RowAt U [] 1 p N vs) (el : El Vz U vs f) (hN : N ≤ 9223372036854775807) (h64 : -9223372036854775808 ≤ m ∧ m ≤ 9223372036854775807) :
    Ct Tryz.prog 24 [.agg #[.int .i64 r, .slice p N c], .int .i64 m] G U M fun v U' D => (chk r N f ≠ 0 → v = .tuple #[.slice none 0 0, .int .i64 (chk r N f)]) ∧
      (chk r N f = 0 → 1000 < m → v = .tuple #[.slice none 0 0, .int .i64 2]) ∧ (chk r N f = 0 → m < 0 → v = .tuple #[.slice none 0 0, .int .i64 0]) ∧
      (∀ n k : Nat, r = (n : Int) → m = (k : Int) → k ≤ 1000 → chk r N f = 0 → VecC n f k U' D v) := by
  refine ct_of_st Tryz.func24 rfl rfl rfl rfl ?_
  repeat (first | refine run_S ?_ | refine w_box (fun _ => ?_) | refine w_al (fun _ => ?_))
  rename_i b2 b3
  refine sl_call rfl rfl rfl rfl rfl rfl (fun _ => tCheck_ct (rw1.up uc (List.nil_sublist _)) (el.up KeptC.out uc) hN) ?_
  rintro v1 U1 D hU1 ⟨rfl, -, rfl⟩
  rw [List.nil_append]
  repeat (first | refine run_S ?_ | refine w_box (fun _ => ?_) | refine w_al (fun _ => ?_))
  refine st_ne rfl (fun h => ?_) (fun h => ?_)
  · repeat (first | refine run_S ?_ | refine w_box (fun _ => ?_) | refine w_al (fun _ => ?_))
    exact sk_ret [] sym rfl (.cons (.tmp rfl) (.cons (.tmp rfl) .nil)) uc sb (.inl rfl) ⟨fun _ => rfl, fun h2 => absurd h2 h, fun h2 => absurd h2 h, fun _ _ _ _ _ h2 => absurd h2 h⟩
  obtain ⟨n, rfl, hn1, hn8, rfl, hb, he, hp⟩ := chk_zero h
  rw [h]
  repeat (first | refine run_S ?_ | refine w_box (fun _ => ?_) | refine w_al (fun _ => ?_))
  refine st_dec rfl (fun h1 => ?_) (fun h1 => ?_)
  · repeat (first | refine run_S ?_ | refine w_box (fun _ => ?_) | refine w_al (fun _ => ?_))
    exact sk_ret [] sym rfl (.cons (.tmp rfl) (.cons (.tmp rfl) .nil)) uc sb (.inl rfl) ⟨fun h2 => absurd rfl h2, fun _ _ => rfl, fun _ h2 => by omega, fun _ k _ e _ _ => by omega⟩
  repeat (first | refine run_S ?_ | refine w_box (fun _ => ?_) | refine w_al (fun _ => ?_))
  refine st_dec rfl (fun h2 => ?_) (fun h2 => ?_)
  · repeat (first | refine run_S ?_ | refine w_box (fun _ => ?_) | refine w_al (fun _ => ?_))
    exact sk_ret [] sym rfl (.cons (.tmp rfl) (.cons (.tmp rfl) .nil)) uc sb (.inl rfl) ⟨fun h2 => absurd rfl h2, fun _ h3 => by omega, fun _ _ => rfl, fun _ k _ e _ _ => by omega⟩
  obtain ⟨m, rfl⟩ : ∃ k : Nat, m = (k : Int) := ⟨m.toNat, by omega⟩
  have hpd := (pdm_pdf he hp).2.1
  have hfin : ∀ v U8 D8, VecC n f m U8 D8 v → ((0 : Int) ≠ 0 → v = .tuple #[.slice none 0 0, .int .i64 0]) ∧ ((0 : Int) = 0 → 1000 < (m : Int) → v = .tuple #[.slice none 0 0, .int .i64 2]) ∧ ((0 : Int) = 0 → (m : Int) < 0 → v = .tuple #[.slice none 0 0, .int .i64 0]) ∧
      (∀ n' k : Nat, (n : Int) = (n' : Int) → (m : Int) = (k : Int) → k ≤ 1000 → (0 : Int) = 0 → VecC n' f k U8 D8 v) := fun v U8 D8 hv => ⟨fun h => absurd rfl h, fun _ h3 => by omega, fun _ h3 => by omega, fun n' k e1 e2 _ _ => by
    obtain rfl : n = n' := Int.ofNat.inj e1
    obtain rfl : m = k := Int.ofNat.inj e2
    exact hv⟩
  repeat (first | refine run_S ?_ | refine w_box (fun _ => ?_) | refine w_al (fun _ => ?_))
  refine sl_call rfl rfl rfl rfl rfl rfl (fun _ => tbox_ct (m := m) (rw1.up uc (List.nil_sublist _)) (el.up KeptC.out uc) hb he hp hn1 hn8 (by omega)) ?_
  rintro v7 U7 D7 hU7 ⟨X, hX, hbx1, hbx2, rfl⟩
  rw [List.nil_append]
  rcases Nat.lt_or_ge 1048576 (Bx.pre (bd X m) n) with hbig | hbx
  · obtain rfl := hbx2 hbig
    have hc8 := hfin (tup [.slice none 0 0, .int .i64 7]) U7 [] ⟨X, hX, fun h => by omega, fun _ => rfl⟩
    repeat (first | refine run_S ?_ | refine w_box (fun _ => ?_) | refine w_al (fun _ => ?_))
    exact sk_ret [] sym rfl (.cons (.tmp rfl) (.cons (.tmp rfl) .nil)) uc sb (.inl rfl) hc8
  obtain ⟨_, rfl, pb, cb, bs, rfl, hcb, rb, eb⟩ := hbx1 hbx
  obtain ⟨b, hbd⟩ : ∃ b, b = bd X m := ⟨_, rfl⟩
  rw [← hbd] at hbx eb
  have hsd : ∀ i, i < n → b i ≤ 1048576 := fun i hi => by have := side_le hi hbx; omega
  repeat (first | refine run_S ?_ | refine w_box (fun _ => ?_) | refine w_al (fun _ => ?_))
  rename_i b9
  refine sl_y (yl_makeFunc rfl rfl) rfl rfl rfl rfl ?_
  have hka : Bx.all b n = Bx.pre b n := Bx.pre_vol _
  have hst : Stp 62 [.pointer (some ⟨b3, 0, none⟩), .pointer (some ⟨b9, 0, none⟩)] G U7 n f b
      (fun k U L => VecI n (vv n f b m) b9 b3 (m : Int) ((b2, .var (.agg #[.int .i64 (n : Int), .slice p (n * n) c]), 24) :: M) U (Bx.idx (pv n f b m) k).length L) := by
    intro k U1 L E px cx xs hk hU hI hrx hex
    rw [qv_vn hpd]
    have hkp : k < Bx.pre b n := by rw [← hka]; exact hk
    refine (tv1_cx hrx hI (fun hq => ?_) (Nat.le_trans (idx_le _ _) (by omega)) hn8).mono fun v U' M' _ hR => ?_
    · have hpk : pv n f b m k = true := beq_iff_eq.2 (Int.ofNat.inj hq)
      have h5 := (idx_at hkp hpk).2
      show El Vz U1 xs (vv n f b m (Bx.idx (pv n f b m) k).length)
      unfold vv
      rw [h5]; exact hex
    · obtain ⟨L', e, hL⟩ := hR
      refine ⟨L', e, ?_⟩
      by_cases hq : (vn n f b k : Int) = (m : Int)
      · rw [if_pos hq] at hL
        have hpk : pv n f b m k = true := beq_iff_eq.2 (Int.ofNat.inj hq)
        rw [(idx_at hkp hpk).1]; exact hL
      · rw [if_neg hq] at hL
        have hpk : pv n f b m k = false := by
          unfold pv
          exact beq_eq_false_iff_ne.2 (fun e => hq (by rw [e]))
        rw [idx_no hpk]; exact hL
  refine sl_perm (M' := (b9, .var (.slice none 0 0), TIss) :: (b3, .var (.int .i64 (m : Int)), TInt) :: ([] ++ (([] : List MH).flatten ++ ((b2, .var (.agg #[.int .i64 (n : Int), .slice p (n * n) c]), 24) :: M)))) ?_ (List.Perm.refl _)
  refine sl_callC rfl rfl rfl rfl rfl rfl (teach_cx (rw1.up uc (List.nil_sublist _)) (el.up KeptC.out uc) hb (rb.up uc (List.nil_sublist _)) (eb.up KeptC.out uc) hsd hn1 hn8 hst ⟨none, 0, [], [], [], rfl, RowO.nil, Gz.nil⟩) ?_
  rintro v8 U8 M8 hU8 ⟨Q, C, svs, Do, F, rfl, hrow, hg⟩
  rw [hka] at hrow ⊢
  have hc8 := hfin (tup [.slice Q (Bx.idx (pv n f b m) (Bx.pre b n)).length C, .int .i64 0]) U8 (Do ++ F.flatten) ⟨X, hX, fun _ => ⟨_, rfl, by rw [← hbd]; exact ⟨Do, F, Q, C, svs, rfl, rfl, hrow, hg⟩⟩, fun h => by rw [← hbd] at h; omega⟩
  refine sl_perm (M' := (b9, .var (.slice Q (Bx.idx (pv n f b m) (Bx.pre b n)).length C), TIss) :: (b3, .var (.int .i64 (m : Int)), TInt) :: (b2, .var (.agg #[.int .i64 (n : Int), .slice p (n * n) c]), 24) :: ((Do ++ F.flatten) ++ M)) ?_ pgj
  repeat (first | refine run_S ?_ | refine w_box (fun _ => ?_) | refine w_al (fun _ => ?_))
  exact sk_ret (Do ++ F.flatten) sym rfl (.cons (.tmp rfl) (.cons (.tmp rfl) .nil)) uc (List.Sublist.cons _ (List.Sublist.cons _ (List.Sublist.cons _ (List.Sublist.refl _)))) (.inl rfl) hc8
theorem tVectors_ct {r m : Int} {N c : Nat} {p : Option Addr} {vs : List Value} {f : Nat → Int} (rw1 : RowAt U [] 1 p N vs) (el : El Vz U vs f) (hN : N ≤ 9223372036854775807) (h64 : -9223372036854775808 ≤ m ∧ m ≤ 9223372036854775807) :
    Ct Tryz.prog 24 [.agg #[.int .i64 r, .slice p N c], .int .i64 m] G U M fun v U' D => (chk r N f ≠ 0 → v = .tuple #[.slice none 0 0, .int .i64 (chk r N f)]) ∧
      (chk r N f = 0 → 1000 < m → v = .tuple #[.slice none 0 0, .int .i64 2]) ∧ (chk r N f = 0 → m < 0 → v = .tuple #[.slice none 0 0, .int .i64 0]) ∧
      (∀ n k : Nat, r = (n : Int) → m = (k : Int) → k ≤ 1000 → chk r N f = 0 → VecO n f k U' v) ∧ D = [] :=
  (tVectors_co rw1 el hN h64).settle.mono fun _ _ _ _ ⟨h1, _, _, ⟨k1, k2, k3, k4⟩, _, h5, h6⟩ => ⟨k1, k2, k3, fun n k e1 e2 e3 e4 => by
    obtain ⟨X, hX, g1, g2⟩ := k4 n k e1 e2 e3 e4
    exact ⟨X, hX, fun h => by
      obtain ⟨s, j1, j2⟩ := g1 h
      exact ⟨s, j1, j2.sett h5 h6⟩, g2⟩, h1⟩
end Go.Proofs.YtjfkodlddladhaaGreat

/- Layer 36: the vectors of a number come in pairs (plain). -/
namespace Go.Proofs.YtjfkodlddladhaaGreat
open Go.Hp
variable {G : World} {U U' : UH} {M : MH}
def ws (n : Nat) (f x : Nat → Int) (j k : Nat) : Int := (Lr.sm j fun a => Lr.sm n fun k => x a * x k * f (a * n + k)) + Lr.sm k fun t => x j * x t * f (j * n + t)
theorem ws_qp {n : Nat} {f x : Nat → Int} : (Lr.sm n fun a => Lr.sm n fun k => x a * x k * f (a * n + k)) = qp n f x n := by
  unfold qp rp
  exact Lr.sm_congr fun a _ => by
    rw [← Lr.sm_mul]
    exact Lr.sm_congr fun j _ => by rw [Int.mul_assoc, Int.mul_comm (x j)]
theorem ws_bd {n : Nat} {f x : Nat → Int} {j k : Nat} (hn : n ≤ 8) (hj : j < n) (hk : k ≤ n) (hb : ∀ k, k < n * n → -1000 ≤ f k ∧ f k ≤ 1000) (hx : ∀ i, i < n → -1048576 ≤ x i ∧ x i ≤ 1048576) : -80000000000000000 ≤ ws n f x j k ∧ ws n f x j k ≤ 80000000000000000 := by
  have hone : ∀ a t, a < n → t < n → -(1048576 * 1048576 * 1000) ≤ x a * x t * f (a * n + t) ∧ x a * x t * f (a * n + t) ≤ 1048576 * 1048576 * 1000 := fun a t ha ht => mul_bd (mul_bd (hx a ha) (hx t ht)) (hb _ (ij_lt ha ht))
  have h1 : ∀ a, a < j → -(8 * (1048576 * 1048576 * 1000)) ≤ (Lr.sm n fun k => x a * x k * f (a * n + k)) ∧ (Lr.sm n fun k => x a * x k * f (a * n + k)) ≤ 8 * (1048576 * 1048576 * 1000) := fun a ha => by
    have := sm_absl (c := 1048576 * 1048576 * 1000) (n := n) (f := fun k => x a * x k * f (a * n + k)) fun t ht => hone a t (by omega) ht
    have h2 : ((n : Nat) : Int) * (1048576 * 1048576 * 1000) ≤ 8 * (1048576 * 1048576 * 1000) := Int.mul_le_mul_of_nonneg_right (by omega) (by decide)
    omega
  have h3 := sm_absl (n := j) h1
  have h4 : ((j : Nat) : Int) * (8 * (1048576 * 1048576 * 1000)) ≤ 8 * (8 * (1048576 * 1048576 * 1000)) := Int.mul_le_mul_of_nonneg_right (by omega) (by decide)
  have h5 := sm_absl (c := 1048576 * 1048576 * 1000) (n := k) (f := fun t => x j * x t * f (j * n + t)) fun t ht => hone j t hj (by omega)
  have h6 : ((k : Nat) : Int) * (1048576 * 1048576 * 1000) ≤ 8 * (1048576 * 1048576 * 1000) := Int.mul_le_mul_of_nonneg_right (by omega) (by decide)
  unfold ws
  omega
end Go.Proofs.YtjfkodlddladhaaGreat

/- Walks of layer 36's reference: first, value, next. -/
namespace Go.Proofs.YtjfkodlddladhaaGreat
open Go.Hp
variable {G : World} {U U' : UH} {M : MH}
theorem r36first_ct {n c : Nat} {p : Option Addr} {bs : List Value} {b : Nat → Nat} (rw1 : RowAt U [] 1 p n bs) (el : El Vz U bs fun i => (b i : Int)) (hb : ∀ i, i < n → b i ≤ 1048576) (hn : n ≤ 8) :
    Ct Tryz.prog 64 [.slice p n c] G U M fun v U' D => Lo Vz TInt 1 n U' D v (fun i => -(b i : Int)) ∧ ULe U U' := by
  have wneg : ∀ a, a < n → IntKind.i64.wrap (0 - ((b a : Nat) : Int)) = -((b a : Nat) : Int) := fun a ha => by
    have := hb a ha
    rw [IntWalk.i64_in _ (by omega)]; omega
  refine ct_of_st Tryz.func64 rfl rfl rfl rfl ?_
  repeat (first | refine run_S ?_ | refine w_box (fun _ => ?_) | refine w_al (fun _ => ?_))
  try refine st_anti (M' := ([]) ++ M) (ULe.refl _) sbk ?_
  refine st_loop (fun z E U' M' => ∃ (i : Nat) (q : Option Addr) (C : Nat) (vs : List Value) (D : MH), i ≤ n ∧ RowO TInt 1 D q i C vs ∧ El Vz U' vs (fun i => -(b i : Int)) ∧ E = [(3, .slice q i C), (4, .int .i64 (i : Int)), (0, .slice p n c)] ∧ ULe U U' ∧ M' = D ++ M ∧ z = n - i) (n0 := n - 0) (E0 := [(3, .slice none 0 0), (4, .int .i64 ((0 : Nat) : Int)), (0, .slice p n c)]) ⟨rfl, rfl, rfl, trivial⟩ ⟨0, none, 0, [], [], by omega, RowO.nil, El.nil, rfl, uc, rfl, rfl⟩ ?_
  rintro z E U1 M' ⟨i, q, C, vs, D, hi, hrow, hel, rfl, hU1, rfl, rfl⟩
  try refine run_s ?_
  refine st_dec rfl (fun h => ?_) (fun h => ?_)
  · have hin : i < n := by omega
    have hbi := hb i hin
    obtain ⟨v1, hv1⟩ := rw1.at hin
    obtain ⟨hv, hz⟩ := el _ _ hv1
    obtain rfl : v1 = .int .i64 ((b i : Nat) : Int) := hv
    try refine run_s ?_
    refine sl_y (yl_index sym rfl rfl rfl rfl rfl rfl ((rw1.up uc sb).lt hv1) ((rw1.up uc sb).get _ _ hv1).1) rfl rfl rfl rfl ?_; refine sl_y (yl_loadR1 sym rfl rfl rfl rfl (rw1.up uc sb) hv1 rfl) rfl rfl rfl rfl ?_
    try refine run_s ?_
    rw [wneg i hin]
    refine w_push hrow (X := M) (List.Perm.refl _) (fun b2 P2 C2 D2 hr2 => ?_)
    try refine run_s ?_
    exact sk_again (E' := [(3, .slice P2 (i + 1) C2), (4, .int .i64 ((i : Int) + 1)), (0, .slice p n c)]) (m := n - (i + 1)) ⟨rfl, rfl, rfl, trivial⟩ (by omega) ⟨i + 1, P2, C2, _, D2, by omega, hr2, snoc_ok hrow.len.1 (hel.up KeptC.out uc) ⟨rfl, by omega⟩, rfl, uc, rfl, rfl⟩
  · obtain rfl : n = i := by omega
    try refine run_s ?_
    exact sk_ret D sym rfl (.cons (.tmp rfl) .nil) uc sb (.inl rfl) ⟨⟨_, _, vs, rfl, hrow, hel⟩, uc⟩
theorem r36value_ct {n c cx : Nat} {p px : Option Addr} {vs xs : List Value} {f x : Nat → Int} (rw1 : RowAt U [] 1 p (n * n) vs) (el : El Vz U vs f) (hb : ∀ k, k < n * n → -1000 ≤ f k ∧ f k ≤ 1000) (rx : RowAt U M 1 px n xs) (ex : El Vz U xs x) (hx : ∀ i, i < n → -1048576 ≤ x i ∧ x i ≤ 1048576) (hn : n ≤ 8) :
    Ct Tryz.prog 66 [.agg #[.int .i64 (n : Int), .slice p (n * n) c], .slice px n cx] G U M fun v U' D => v = .int .i64 (qv n f x) ∧ U = U' ∧ D = [] := by
  have hnn : n * n ≤ 8 * 8 := Nat.mul_le_mul hn hn
  refine ct_of_st Tryz.func66 rfl rfl rfl rfl ?_
  repeat (first | refine run_S ?_ | refine w_box (fun _ => ?_) | refine w_al (fun _ => ?_))
  rename_i b2
  try refine st_anti (M' := (b2, .var (.agg #[.int .i64 (n : Int), .slice p (n * n) c]), 24) :: M) (ULe.refl _) sbk ?_
  refine st_loop (fun z E U' M' => ∃ (j : Nat), j ≤ n ∧ U = U' ∧ E = [(6, .int .i64 (j : Int)), (5, .int .i64 (ws n f x j 0)), (2, .pointer (some ⟨b2, 0, none⟩)), (1, .slice px n cx)] ∧ ULe U U' ∧ M' = (b2, .var (.agg #[.int .i64 (n : Int), .slice p (n * n) c]), 24) :: M ∧ z = n - j) (n0 := n - 0) (E0 := [(6, .int .i64 ((0 : Nat) : Int)), (5, .int .i64 (ws n f x 0 0)), (2, .pointer (some ⟨b2, 0, none⟩)), (1, .slice px n cx)]) ⟨rfl, rfl, rfl, rfl, trivial⟩ ⟨0, by omega, rfl, rfl, uc, rfl, rfl⟩ ?_
  rintro z E U1 M' ⟨j, hj, rfl, rfl, hU1, rfl, rfl⟩
  try refine run_s ?_
  refine st_dec rfl (fun h6 => ?_) (fun h6 => ?_)
  · have hjn : j < n := by omega
    obtain ⟨u1, hu1⟩ := rx.at hjn
    obtain ⟨hv1, hz1⟩ := ex _ _ hu1
    subst hv1
    try refine run_s ?_
    try refine st_anti (M' := (b2, .var (.agg #[.int .i64 (n : Int), .slice p (n * n) c]), 24) :: M) (ULe.refl _) sbk ?_
    refine st_loop (fun z E U' M' => ∃ (k : Nat), k ≤ n ∧ U = U' ∧ E = [(7, .int .i64 (k : Int)), (6, .int .i64 (j : Int)), (5, .int .i64 (ws n f x j k)), (2, .pointer (some ⟨b2, 0, none⟩)), (1, .slice px n cx)] ∧ ULe U U' ∧ M' = (b2, .var (.agg #[.int .i64 (n : Int), .slice p (n * n) c]), 24) :: M ∧ z = n - k) (n0 := n - 0) (E0 := [(7, .int .i64 ((0 : Nat) : Int)), (6, .int .i64 (j : Int)), (5, .int .i64 (ws n f x j 0)), (2, .pointer (some ⟨b2, 0, none⟩)), (1, .slice px n cx)]) ⟨rfl, rfl, rfl, rfl, rfl, trivial⟩ ⟨0, by omega, rfl, rfl, uc, rfl, rfl⟩ ?_
    rintro z E U10 M' ⟨k, hk, rfl, rfl, hU10, rfl, rfl⟩
    try refine run_s ?_
    refine st_dec rfl (fun h7 => ?_) (fun h7 => ?_)
    · have hkn : k < n := by omega
      obtain ⟨u2, hu2⟩ := rx.at hkn
      obtain ⟨hv2, hz2⟩ := ex _ _ hu2
      subst hv2
      have hl := ij_lt hjn hkn
      obtain ⟨u4, hu4⟩ := rw1.at hl
      obtain ⟨hv4, hz4⟩ := el _ _ hu4
      subst hv4
      have m1 := mul_bd (hx j hjn) (hx k hkn)
      have m2 := mul_bd m1 (hb _ hl)
      have r1 := ws_bd (x := x) hn hjn (show k ≤ n by omega) hb hx
      have r2 := ws_bd (x := x) hn hjn (show k + 1 ≤ n by omega) hb hx
      have e1 : ws n f x j (k + 1) = ws n f x j k + x j * x k * f (j * n + k) := (Int.add_assoc _ _ _).symm
      have e2 : (j : Int) * (n : Int) = ((j * n : Nat) : Int) := (Int.natCast_mul j n).symm
      try refine run_s ?_
      refine st_drawM [22] [0, 1, 2, 3, 4, 5, 6, 7, 8, 9, 10, 11, 12, 13, 14, 15, 16, 17, 18, 19, 20, 21, 22] sym (by kernel_rfl) ?_
      try refine run_s ?_
      refine sl_y (yl_index sym rfl rfl rfl rfl rfl rfl ((rx.up uc sb).lt hu1) ((rx.up uc sb).get _ _ hu1).1) rfl rfl rfl rfl ?_; refine sl_y (yl_loadR1 sym rfl rfl rfl rfl (rx.up uc sb) hu1 rfl) rfl rfl rfl rfl ?_
      try refine run_s ?_
      refine sl_y (yl_index sym rfl rfl rfl rfl rfl rfl ((rx.up uc sb).lt hu2) ((rx.up uc sb).get _ _ hu2).1) rfl rfl rfl rfl ?_; refine sl_y (yl_loadR1 sym rfl rfl rfl rfl (rx.up uc sb) hu2 rfl) rfl rfl rfl rfl ?_
      try refine run_s ?_
      refine sl_y (yl_index sym rfl rfl rfl rfl rfl ( (show _ = ((j * n + k : Nat) : Int) by omega)) ((rw1.up uc sb).lt hu4) ((rw1.up uc sb).get _ _ hu4).1) rfl rfl rfl rfl ?_; refine sl_y (yl_loadR1 sym rfl rfl rfl rfl (rw1.up uc sb) hu4 rfl) rfl rfl rfl rfl ?_
      try refine run_s ?_
      rw [← e1]
      exact sk_again (E' := [(7, .int .i64 ((k : Int) + 1)), (6, .int .i64 (j : Int)), (5, .int .i64 (ws n f x j (k + 1))), (2, .pointer (some ⟨b2, 0, none⟩)), (1, .slice px n cx)]) (m := n - (k + 1)) ⟨rfl, rfl, rfl, rfl, rfl, trivial⟩ (by omega) ⟨k + 1, by omega, rfl, rfl, uc, rfl, rfl⟩
    · obtain rfl : n = k := by omega
      have e1 : ws n f x (j + 1) 0 = ws n f x j n := Int.add_zero _
      rw [← e1]
      try refine run_s ?_
      exact sk_again (E' := [(6, .int .i64 ((j : Int) + 1)), (5, .int .i64 (ws n f x (j + 1) 0)), (2, .pointer (some ⟨b2, 0, none⟩)), (1, .slice px n cx)]) (m := n - (j + 1)) ⟨rfl, rfl, rfl, rfl, trivial⟩ (by omega) ⟨j + 1, by omega, rfl, rfl, uc, rfl, rfl⟩
  · obtain rfl : n = j := by omega
    have e1 : ws n f x n 0 = qp n f x n := by rw [← ws_qp]; exact Int.add_zero _
    have q1 := qp_bd hn (Nat.le_refl n) hb hx
    have eq : IntKind.i64.wrap ((qp n f x n).tdiv 2) = qv n f x := IntWalk.i64_in _ (by
      have := @tdiv_two (qp n f x n)
      omega)
    rw [e1]
    try refine run_s ?_
    exact sk_ret [] sym rfl (.cons (.tmp rfl) .nil) uc sb (.inl rfl) ⟨by rw [← eq]; rfl, rfl, rfl⟩
theorem r36next_cx {n k cb cx : Nat} {pb px : Option Addr} {bs xs : List Value} {b : Nat → Nat} {Dx X : MH} (rw2 : RowAt U [] 1 pb n bs) (el2 : El Vz U bs fun i => (b i : Int)) (hbb : ∀ i, i < n → b i ≤ 1048576) (hrow : RowO TInt 1 Dx px n cx xs) (hex : El Vz U xs (Bx.vec b n k)) (hk : k < Bx.all b n) (h1n : 1 ≤ n) (hn : n ≤ 8) :
    Cx Tryz.prog 65 [.slice px n cx, .slice pb n cb] G U (Dx ++ X) fun v U' M' => ∃ Dx' xs', M' = Dx' ++ X ∧ RowO TInt 1 Dx' px n cx xs' ∧ (k + 1 < Bx.all b n ∧ v = .bool true ∧ El Vz U' xs' (Bx.vec b n (k + 1)) ∨ k + 1 = Bx.all b n ∧ v = .bool false) := by
  have wneg : ∀ a, a < n → IntKind.i64.wrap (0 - ((b a : Nat) : Int)) = -((b a : Nat) : Int) := fun a ha => by
    have := hbb a ha
    rw [IntWalk.i64_in _ (by omega)]; omega
  have hxb : ∀ a, a < n → -1048576 ≤ Bx.vec b n k a ∧ Bx.vec b n k a ≤ 1048576 := fun a ha => by
    have := hbb a ha
    have := Bx.vec_le b n k a
    omega
  have hex0 : El Vz U xs (fun a => if a < n then Bx.vec b n k a else -(b a : Int)) := hex.congr hrow.len.1 fun a ha => (if_pos ha).symm
  have hps := hrow.some (by omega)
  refine cx_of_st Tryz.func65 rfl rfl rfl rfl ?_
  repeat (first | refine run_S ?_ | refine w_box (fun _ => ?_) | refine w_al (fun _ => ?_))
  try refine st_anti (M' := Dx ++ X) (ULe.refl _) sbk ?_
  refine st_loop (fun z E U' M' => ∃ (j : Nat) (xs : List Value) (Dx : MH), j ≤ n ∧ RowO TInt 1 Dx px n cx xs ∧ El Vz U' xs (fun a => if a < j then (Bx.vec b n k) a else -(b a : Int)) ∧ (∀ a, j ≤ a → a < n → (Bx.vec b n k) a = b a) ∧ U = U' ∧ E = [(5, .int .i64 ((j : Int) - 1)), (0, .slice px n cx), (1, .slice pb n cb)] ∧ ULe U U' ∧ M' = Dx ++ X ∧ z = j) (n0 := n) (E0 := [(5, .int .i64 (((n : Nat) : Int) - 1)), (0, .slice px n cx), (1, .slice pb n cb)]) ⟨rfl, rfl, rfl, trivial⟩ ⟨n, xs, Dx, by omega, hrow, hex0, (fun a h1 h2 => absurd h1 (by omega)), rfl, rfl, uc, rfl, rfl⟩ ?_
  clear hrow hex0 hex
  rintro z E U1 M' ⟨j, xs, Dx, hj, hrow, hex, hful, rfl, rfl, hU1, rfl, hzR⟩
  try refine run_s ?_
  refine st_dec rfl (fun h1 => ?_) (fun h1 => ?_)
  · obtain ⟨j, rfl⟩ : ∃ i, j = i + 1 := ⟨j - 1, by omega⟩
    have hjn : j < n := by omega
    have hbj := hbb j hjn
    have hlen := hrow.len.1
    have rX := hrow.at (U := U) (M := Dx ++ X) sb
    obtain ⟨v1, hv1⟩ := rX.at hjn
    obtain ⟨hv, hz1⟩ : Vz U v1 ((Bx.vec b n k) j) := by
      have h := hex _ _ hv1
      simp only [if_pos (show j < j + 1 by omega)] at h
      exact h
    subst hv
    obtain ⟨v2, hv2⟩ := rw2.at hjn
    obtain ⟨hv, hz2⟩ := el2 _ _ hv2
    obtain rfl : v2 = .int .i64 ((b j : Nat) : Int) := hv
    rw [show ((j + 1 : Nat) : Int) - 1 = (j : Int) by omega]
    try refine run_s ?_
    refine st_drawM [] [0, 1, 2, 3, 4, 5, 6, 7, 8] sym (by kernel_rfl) ?_
    try refine run_s ?_
    refine sl_y (yl_index sym rfl rfl rfl rfl rfl rfl (rX.lt hv1) (rX.get _ _ hv1).1) rfl rfl rfl rfl ?_; refine sl_y (yl_loadR1 sym rfl rfl rfl rfl rX hv1 rfl) rfl rfl rfl rfl ?_
    try refine run_s ?_
    refine sl_y (yl_index sym rfl rfl rfl rfl rfl rfl ((rw2.up uc sb).lt hv2) ((rw2.up uc sb).get _ _ hv2).1) rfl rfl rfl rfl ?_; refine sl_y (yl_loadR1 sym rfl rfl rfl rfl (rw2.up uc sb) hv2 rfl) rfl rfl rfl rfl ?_
    try refine run_s ?_
    have hxle := (Bx.vec_le b n k j).2
    refine st_dec rfl (fun h2 => ?_) (fun h2 => ?_)
    · have hne : (Bx.vec b n k) j ≠ b j := by omega
      have hxj := hxb j hjn
      try refine run_s ?_
      refine sl_y (yl_index sym rfl rfl rfl rfl rfl rfl (rX.lt hv1) (rX.get _ _ hv1).1) rfl rfl rfl rfl ?_; refine sl_y (yl_loadR1 sym rfl rfl rfl rfl rX hv1 rfl) rfl rfl rfl rfl ?_
      try refine run_s ?_
      refine w_addr (j := j) hjn hps ?_
      refine w_storeR (v := .int .i64 ((Bx.vec b n k) j + 1)) (X := X) hrow (List.Perm.refl _) hjn (fun D3 hr3 => ?_)
      have hlast : k + 1 ≠ Bx.all b n := fun e => hne ((Bx.vec_last hk).2 e j hjn)
      obtain ⟨g1, g2, g3⟩ := Bx.vec_next hjn (fun a h4 h5 => hful a (by omega) h5) hne
      try refine run_s ?_
      exact sk_retX (M' := D3 ++ X) sym rfl (.cons (.tmp rfl) .nil) uc sb (.inl rfl) ⟨D3, _, rfl, hr3, .inl ⟨by omega, rfl, set_ok (fun a x hx hne => by
        have := hex _ _ hx
        by_cases e : a < j
        · simp only [if_pos (show a < j + 1 by omega)] at this; rw [g1 a e]; exact this
        · have han : a < n := by
            have := (List.getElem?_eq_some_iff.1 hx).1
            omega
          simp only [if_neg (show ¬ a < j + 1 by omega)] at this; rw [g3 a (by omega) han]; exact this) (by rw [g2]; exact ⟨rfl, by omega⟩)⟩⟩
    · have heq : (Bx.vec b n k) j = b j := by omega
      try refine run_s ?_
      refine sl_y (yl_index sym rfl rfl rfl rfl rfl rfl ((rw2.up uc sb).lt hv2) ((rw2.up uc sb).get _ _ hv2).1) rfl rfl rfl rfl ?_; refine sl_y (yl_loadR1 sym rfl rfl rfl rfl (rw2.up uc sb) hv2 rfl) rfl rfl rfl rfl ?_
      try refine run_s ?_
      rw [wneg j hjn]
      refine w_addr (j := j) hjn hps ?_
      refine w_storeR (v := .int .i64 (-(b j : Int))) (X := X) hrow (List.Perm.refl _) hjn (fun D3 hr3 => ?_)
      try refine run_s ?_
      exact sk_again (E' := [(5, .int .i64 ((j : Int) - 1)), (0, .slice px n cx), (1, .slice pb n cb)]) (m := j) ⟨rfl, rfl, rfl, trivial⟩ (by omega) ⟨j, xs.set j (.int .i64 (-(b j : Int))), D3, by omega, hr3, set_ok (fun a x hx hne => by
        have := hex _ _ hx
        by_cases e : a < j
        · simp only [if_pos (show a < j + 1 by omega)] at this; simp only [if_pos e]; exact this
        · simp only [if_neg (show ¬ a < j + 1 by omega)] at this; simp only [if_neg e]; exact this) (by simp only [if_neg (Nat.lt_irrefl j)]; exact ⟨rfl, by omega⟩), (fun a h3 h4 => by
        by_cases e : a = j
        · rw [e]; exact heq
        · exact hful a (by omega) h4), rfl, rfl, uc, rfl, rfl⟩
  · obtain rfl : j = 0 := by omega
    have hfin := (Bx.vec_last hk).1 fun a ha => hful a (by omega) ha
    try refine run_s ?_
    exact sk_retX (M' := Dx ++ X) sym rfl (.cons (.tmp rfl) .nil) uc sb (.inl rfl) ⟨Dx, xs, rfl, hrow, .inr ⟨hfin, rfl⟩⟩
end Go.Proofs.YtjfkodlddladhaaGreat

/- Laws of layer 36: Vectors. -/
namespace Go.Proofs.YtjfkodlddladhaaGreat
open Go.Hp
variable {G : World} {U U' : UH} {M : MH}
theorem r36Vectors_co {r m : Int} {N c : Nat} {p : Option Addr} {vs : List Value} {f : Nat → Int} (rw1 : RowAt U [] 1 p N vs) (el : El Vz U vs f) (hc : N ≤ c) (hN : N ≤ 9223372036854775807) (h64 : -9223372036854775808 ≤ m ∧ m ≤ 9223372036854775807) :
    Ct Tryz.prog 25 [.agg #[.int .i64 r, .slice p N c], .int .i64 m] G U M fun v U' D => (chk r N f ≠ 0 → v = .tuple #[.slice none 0 0, .int .i64 (chk r N f)]) ∧
      (chk r N f = 0 → 1000 < m → v = .tuple #[.slice none 0 0, .int .i64 2]) ∧ (chk r N f = 0 → m < 0 → v = .tuple #[.slice none 0 0, .int .i64 0]) ∧
      (∀ n k : Nat, r = (n : Int) → m = (k : Int) → k ≤ 1000 → chk r N f = 0 → VecC n f k U' D v) := by
  refine ct_of_st Tryz.func25 rfl rfl rfl rfl ?_
  repeat (first | refine run_S ?_ | refine w_box (fun _ => ?_) | refine w_al (fun _ => ?_))
  rename_i b2
  refine sl_call rfl rfl rfl rfl rfl rfl (fun _ => r36Check_ct (rw1.up uc (List.nil_sublist _)) (el.up KeptC.out uc) hc hN) ?_
  rintro v1 U1 D hU1 ⟨rfl, -, rfl⟩
  rw [List.nil_append]
  repeat (first | refine run_S ?_ | refine w_box (fun _ => ?_) | refine w_al (fun _ => ?_))
  refine st_ne rfl (fun h => ?_) (fun h => ?_)
  · repeat (first | refine run_S ?_ | refine w_box (fun _ => ?_) | refine w_al (fun _ => ?_))
    exact sk_ret [] sym rfl (.cons (.tmp rfl) (.cons (.tmp rfl) .nil)) uc sb (.inl rfl) ⟨fun _ => rfl, fun h2 => absurd h2 h, fun h2 => absurd h2 h, fun _ _ _ _ _ h2 => absurd h2 h⟩
  obtain ⟨n, rfl, hn1, hn8, rfl, hb, he, hp⟩ := chk_zero h
  rw [h]
  repeat (first | refine run_S ?_ | refine w_box (fun _ => ?_) | refine w_al (fun _ => ?_))
  refine st_dec rfl (fun h1 => ?_) (fun h1 => ?_)
  · repeat (first | refine run_S ?_ | refine w_box (fun _ => ?_) | refine w_al (fun _ => ?_))
    exact sk_ret [] sym rfl (.cons (.tmp rfl) (.cons (.tmp rfl) .nil)) uc sb (.inl rfl) ⟨fun h2 => absurd rfl h2, fun _ _ => rfl, fun _ h2 => by omega, fun _ k _ e _ _ => by omega⟩
  repeat (first | refine run_S ?_ | refine w_box (fun _ => ?_) | refine w_al (fun _ => ?_))
  refine st_dec rfl (fun h2 => ?_) (fun h2 => ?_)
  · repeat (first | refine run_S ?_ | refine w_box (fun _ => ?_) | refine w_al (fun _ => ?_))
    exact sk_ret [] sym rfl (.cons (.tmp rfl) (.cons (.tmp rfl) .nil)) uc sb (.inl rfl) ⟨fun h2 => absurd rfl h2, fun _ h3 => by omega, fun _ _ => rfl, fun _ k _ e _ _ => by omega⟩
  obtain ⟨m, rfl⟩ : ∃ k : Nat, m = (k : Int) := ⟨m.toNat, by omega⟩
  have hpd := (pdm_pdf he hp).2.1
  have hfin : ∀ v U8 D8, VecC n f m U8 D8 v → ((0 : Int) ≠ 0 → v = .tuple #[.slice none 0 0, .int .i64 0]) ∧ ((0 : Int) = 0 → 1000 < (m : Int) → v = .tuple #[.slice none 0 0, .int .i64 2]) ∧ ((0 : Int) = 0 → (m : Int) < 0 → v = .tuple #[.slice none 0 0, .int .i64 0]) ∧
      (∀ n' k : Nat, (n : Int) = (n' : Int) → (m : Int) = (k : Int) → k ≤ 1000 → (0 : Int) = 0 → VecC n' f k U8 D8 v) := fun v U8 D8 hv => ⟨fun h => absurd rfl h, fun _ h3 => by omega, fun _ h3 => by omega, fun n' k e1 e2 _ _ => by
    obtain rfl : n = n' := Int.ofNat.inj e1
    obtain rfl : m = k := Int.ofNat.inj e2
    exact hv⟩
  obtain ⟨X, hX⟩ := inv_ex hb he hp hn1 hn8
  obtain ⟨k1, k2⟩ := Bx.szl_ok (B := 1048576) (b := bd X m) n
  repeat (first | refine run_S ?_ | refine w_box (fun _ => ?_) | refine w_al (fun _ => ?_))
  refine sl_call rfl rfl rfl rfl rfl rfl (fun _ => r36sides_ct (rw1.up uc (List.nil_sublist _)) (el.up KeptC.out uc) hb he hp hn1 hn8 hc (show m ≤ 1000 by omega) hX) ?_
  rintro v7 U7 D7 hU7 ⟨_, rfl, ⟨pb, cb, bs, rfl, hcb, rb, eb⟩, rfl⟩
  try rw [List.nil_append]
  repeat (first | refine run_S ?_ | refine w_box (fun _ => ?_) | refine w_al (fun _ => ?_))
  refine st_dec rfl (fun h3 => ?_) (fun h3 => ?_)
  · have hbig : 1048576 < Bx.pre (bd X m) n := by
      rcases Nat.lt_or_ge 1048576 (Bx.pre (bd X m) n) with h4 | h4
      · exact h4
      · have := k1 h4; omega
    have hc8 := hfin (tup [.slice none 0 0, .int .i64 7]) U7 [] ⟨X, hX, fun h => by omega, fun _ => rfl⟩
    repeat (first | refine run_S ?_ | refine w_box (fun _ => ?_) | refine w_al (fun _ => ?_))
    exact sk_ret [] sym rfl (.cons (.tmp rfl) (.cons (.tmp rfl) .nil)) uc sb (.inl rfl) hc8
  have hbx : Bx.pre (bd X m) n ≤ 1048576 := by
    rcases Nat.lt_or_ge 1048576 (Bx.pre (bd X m) n) with h4 | h4
    · rcases k2 h4 with h5 | h5 <;> omega
    · exact h4
  clear k1 k2 h3
  obtain ⟨b, hbd⟩ : ∃ b, b = bd X m := ⟨_, rfl⟩
  rw [← hbd] at hbx eb
  have hsd : ∀ i, i < n → b i ≤ 1048576 := fun i hi => by have := side_le hi hbx; omega
  replace eb : El Vz U7 bs (fun i => (b i : Int)) := eb.congr rb.len fun i hi => by
    have := hsd i hi
    rw [Nat.min_eq_left this]
  have hka : Bx.all b n = Bx.pre b n := Bx.pre_vol _
  repeat (first | refine run_S ?_ | refine w_box (fun _ => ?_) | refine w_al (fun _ => ?_))
  refine sl_call rfl rfl rfl rfl rfl rfl (fun _ => r36first_ct (rb.up uc (List.nil_sublist _)) (eb.up KeptC.out uc) hsd hn8) ?_
  rintro v8 U8 D8 hU8 ⟨⟨px, cx, xs, rfl, hrx, ex⟩, -⟩
  have ex0 : El Vz U8 xs (Bx.vec b n 0) := ex.congr hrx.len.1 fun i hi => (Bx.vec_zero b n i).symm
  refine sl_perm (M' := (b2, .var (.agg #[.int .i64 (n : Int), .slice p (n * n) c]), 24) :: (D8 ++ ([] ++ (([] : List MH).flatten ++ M)))) ?_ pgj
  clear ex
  repeat (first | refine run_S ?_ | refine w_box (fun _ => ?_) | refine w_al (fun _ => ?_))
  try refine st_anti (M' := (b2, .var (.agg #[.int .i64 (n : Int), .slice p (n * n) c]), 24) :: (D8 ++ (([]) ++ (([]).flatten ++ M)))) (ULe.refl _) sbk ?_
  refine st_loop (fun z E U' M' => ∃ (k : Nat) (mb : Bool) (xs : List Value) (Dx : MH) (Q : Option Addr) (C w : Nat) (svs : List Value) (Do : MH) (F : List MH), w = (Bx.idx (pv n f b m) k).length ∧ (mb = true ∧ k < Bx.all b n ∧ El Vz U' xs (Bx.vec b n k) ∨ mb = false ∧ k = Bx.all b n) ∧ RowO TInt 1 Dx px n cx xs ∧ RowO TIs 1 Do Q w C svs ∧ Gz Vz zO n U' svs F (vv n f b m) ∧ E = [(11, .bool mb), (10, .slice px n cx), (9, .slice Q w C), (7, .slice pb n cb), (1, .int .i64 (m : Int)), (2, .pointer (some ⟨b2, 0, none⟩))] ∧ ULe U8 U' ∧ M' = (b2, .var (.agg #[.int .i64 (n : Int), .slice p (n * n) c]), 24) :: (Dx ++ (Do ++ (F.flatten ++ M))) ∧ z = Bx.all b n - k) (n0 := Bx.all b n - 0) (E0 := [(11, .bool true), (10, .slice px n cx), (9, .slice none 0 0), (7, .slice pb n cb), (1, .int .i64 (m : Int)), (2, .pointer (some ⟨b2, 0, none⟩))]) ⟨rfl, rfl, rfl, rfl, rfl, rfl, trivial⟩ ⟨0, true, xs, D8, none, 0, 0, [], [], [], rfl, (.inl ⟨rfl, Bx.vol_pos _ _ _, ex0⟩), hrx, RowO.nil, Gz.nil, rfl, uc, rfl, rfl⟩ ?_
  clear hrx ex0
  rintro z E U9 M' ⟨k, mb, xs, Dx, Q, C, w, svs, Do, F, hw, hmb, hrx, hrow, hg, rfl, hU9, rfl, rfl⟩
  try refine run_s ?_
  have hw4 : w ≤ 1048576 := by
    have hk4 : k ≤ Bx.all b n := by rcases hmb with h4 | h4 <;> omega
    rw [hw]
    exact Nat.le_trans (idx_le _ _) (by omega)
  rcases hmb with ⟨rfl, hk, ex⟩ | ⟨rfl, rfl⟩
  · have hxb : ∀ a, a < n → -1048576 ≤ Bx.vec b n k a ∧ Bx.vec b n k a ≤ 1048576 := fun a ha => by
      have := hsd a ha
      have := Bx.vec_le b n k a
      omega
    have hkp : k < Bx.pre b n := by omega
    try refine run_s ?_
    refine sl_call rfl rfl rfl rfl rfl rfl (fun _ => r36value_ct (rw1.up uc (List.nil_sublist _)) (el.up KeptC.out uc) hb (hrx.at sb) ex hxb hn8) ?_
    rintro v U' D hU ⟨rfl, rfl, rfl⟩
    repeat (first | refine run_S ?_ | refine w_box (fun _ => ?_) | refine w_al (fun _ => ?_))
    rw [qv_vn hpd]
    refine st_eq rfl (fun hq => ?_) (fun hq => ?_)
    · have hpk : pv n f b m k = true := beq_iff_eq.2 (Int.ofNat.inj hq)
      obtain ⟨h5, h6⟩ := idx_at hkp hpk
      have hel' : El Vz U9 xs (vv n f b m w) := by
        show El Vz U9 xs (fun j => Bx.vec b n ((Bx.idx (pv n f b m) (Bx.pre b n)).getD w 0) j)
        rw [hw, h6]; exact ex
      have hlen := hrow.len
      try refine run_s ?_
      refine w_bs0 (fun b41 => ?_)
      try refine run_s ?_
      refine w_app0 (hrx.at sb) (El.ones hel' fun _ _ h => one_z h) (fun q4 c4 D4 hr4 => ?_)
      try refine run_s ?_
      refine w_push hrow (X := D4 ++ ((b41, .arr [], TInt) :: (b2, .var (.agg #[.int .i64 (n : Int), .slice p (n * n) c]), 24) :: (Dx ++ (F.flatten ++ M)))) pgj (fun b9 P2 C2 D2 hr2 => ?_)
      refine sl_perm (M' := (b41, .arr [], TInt) :: (b2, .var (.agg #[.int .i64 (n : Int), .slice p (n * n) c]), 24) :: (Dx ++ (D2 ++ ((F ++ [D4]).flatten ++ M)))) ?_ pgj
      refine sl_drop (M' := (b2, .var (.agg #[.int .i64 (n : Int), .slice p (n * n) c]), 24) :: (Dx ++ (D2 ++ ((F ++ [D4]).flatten ++ M)))) sbk ?_
      have hg2 := hg.snoc (n := w) hlen.1 hr4.len.2.1 hr4 hel'
      have hw' : w + 1 = (Bx.idx (pv n f b m) (k + 1)).length := by rw [h5, hw]
      try refine run_s ?_
      refine sl_callC rfl rfl rfl rfl rfl rfl ((r36next_cx (X := (b2, .var (.agg #[.int .i64 (n : Int), .slice p (n * n) c]), 24) :: (D2 ++ ((F ++ [D4]).flatten ++ M))) (rb.up uc (List.nil_sublist _)) (eb.up KeptC.out uc) hsd hrx ex hk hn1 hn8).perm pgj) ?_
      rintro v5 U5 M5 hU5 ⟨Dx', xs', rfl, hr', hcase⟩
      refine sl_perm (M' := (b2, .var (.agg #[.int .i64 (n : Int), .slice p (n * n) c]), 24) :: (Dx' ++ (D2 ++ ((F ++ [D4]).flatten ++ M)))) ?_ pgj
      rcases hcase with ⟨hlt, rfl, hex'⟩ | ⟨heq, rfl⟩
      · try refine run_s ?_
        exact sk_again (E' := [(11, .bool true), (10, .slice px n cx), (9, .slice P2 (w + 1) C2), (7, .slice pb n cb), (1, .int .i64 (m : Int)), (2, .pointer (some ⟨b2, 0, none⟩))]) (m := Bx.all b n - (k + 1)) ⟨rfl, rfl, rfl, rfl, rfl, rfl, trivial⟩ (by omega) ⟨k + 1, true, xs', Dx', P2, C2, w + 1, _, D2, (F ++ [D4]), hw', .inl ⟨rfl, hlt, hex'⟩, hr', hr2, hg2.up uc, rfl, uc, rfl, rfl⟩
      · try refine run_s ?_
        exact sk_again (E' := [(11, .bool false), (10, .slice px n cx), (9, .slice P2 (w + 1) C2), (7, .slice pb n cb), (1, .int .i64 (m : Int)), (2, .pointer (some ⟨b2, 0, none⟩))]) (m := Bx.all b n - (k + 1)) ⟨rfl, rfl, rfl, rfl, rfl, rfl, trivial⟩ (by omega) ⟨k + 1, false, xs', Dx', P2, C2, w + 1, _, D2, (F ++ [D4]), hw', .inr ⟨rfl, heq⟩, hr', hr2, hg2.up uc, rfl, uc, rfl, rfl⟩
    · have hpk : pv n f b m k = false := by
        unfold pv
        exact beq_eq_false_iff_ne.2 (fun e => hq (by rw [e]))
      have hw' : w = (Bx.idx (pv n f b m) (k + 1)).length := by rw [idx_no hpk]; exact hw
      try refine run_s ?_
      refine sl_callC rfl rfl rfl rfl rfl rfl ((r36next_cx (X := (b2, .var (.agg #[.int .i64 (n : Int), .slice p (n * n) c]), 24) :: (Do ++ (F.flatten ++ M))) (rb.up uc (List.nil_sublist _)) (eb.up KeptC.out uc) hsd hrx ex hk hn1 hn8).perm pgj) ?_
      rintro v5 U5 M5 hU5 ⟨Dx', xs', rfl, hr', hcase⟩
      refine sl_perm (M' := (b2, .var (.agg #[.int .i64 (n : Int), .slice p (n * n) c]), 24) :: (Dx' ++ (Do ++ (F.flatten ++ M)))) ?_ pgj
      rcases hcase with ⟨hlt, rfl, hex'⟩ | ⟨heq, rfl⟩
      · try refine run_s ?_
        exact sk_again (E' := [(11, .bool true), (10, .slice px n cx), (9, .slice Q w C), (7, .slice pb n cb), (1, .int .i64 (m : Int)), (2, .pointer (some ⟨b2, 0, none⟩))]) (m := Bx.all b n - (k + 1)) ⟨rfl, rfl, rfl, rfl, rfl, rfl, trivial⟩ (by omega) ⟨k + 1, true, xs', Dx', Q, C, w, svs, Do, F, hw', .inl ⟨rfl, hlt, hex'⟩, hr', hrow, hg.up uc, rfl, uc, rfl, rfl⟩
      · try refine run_s ?_
        exact sk_again (E' := [(11, .bool false), (10, .slice px n cx), (9, .slice Q w C), (7, .slice pb n cb), (1, .int .i64 (m : Int)), (2, .pointer (some ⟨b2, 0, none⟩))]) (m := Bx.all b n - (k + 1)) ⟨rfl, rfl, rfl, rfl, rfl, rfl, trivial⟩ (by omega) ⟨k + 1, false, xs', Dx', Q, C, w, svs, Do, F, hw', .inr ⟨rfl, heq⟩, hr', hrow, hg.up uc, rfl, uc, rfl, rfl⟩
  · rw [hka] at hw
    subst hw
    have hc8 := hfin (tup [.slice Q (Bx.idx (pv n f b m) (Bx.pre b n)).length C, .int .i64 0]) U9 (Do ++ F.flatten) ⟨X, hX, fun _ => ⟨_, rfl, by rw [← hbd]; exact ⟨Do, F, Q, C, svs, rfl, rfl, hrow, hg⟩⟩, fun h => by rw [← hbd] at h; omega⟩
    try refine run_s ?_
    refine sk_perm (M' := (b2, .var (.agg #[.int .i64 (n : Int), .slice p (n * n) c]), 24) :: (Dx ++ ((Do ++ F.flatten) ++ M))) pgj ?_
    exact sk_ret (Do ++ F.flatten) sym rfl (.cons (.tmp rfl) (.cons (.tmp rfl) .nil)) uc (List.Sublist.cons _ (List.sublist_append_right _ _)) (.inl rfl) hc8
theorem r36Vectors_ct {r m : Int} {N c : Nat} {p : Option Addr} {vs : List Value} {f : Nat → Int} (rw1 : RowAt U [] 1 p N vs) (el : El Vz U vs f) (hc : N ≤ c) (hN : N ≤ 9223372036854775807) (h64 : -9223372036854775808 ≤ m ∧ m ≤ 9223372036854775807) :
    Ct Tryz.prog 25 [.agg #[.int .i64 r, .slice p N c], .int .i64 m] G U M fun v U' D => (chk r N f ≠ 0 → v = .tuple #[.slice none 0 0, .int .i64 (chk r N f)]) ∧
      (chk r N f = 0 → 1000 < m → v = .tuple #[.slice none 0 0, .int .i64 2]) ∧ (chk r N f = 0 → m < 0 → v = .tuple #[.slice none 0 0, .int .i64 0]) ∧
      (∀ n k : Nat, r = (n : Int) → m = (k : Int) → k ≤ 1000 → chk r N f = 0 → VecO n f k U' v) ∧ D = [] :=
  (r36Vectors_co rw1 el hc hN h64).settle.mono fun _ _ _ _ ⟨h1, _, _, ⟨k1, k2, k3, k4⟩, _, h5, h6⟩ => ⟨k1, k2, k3, fun n k e1 e2 e3 e4 => by
    obtain ⟨X, hX, g1, g2⟩ := k4 n k e1 e2 e3 e4
    exact ⟨X, hX, fun h => by
      obtain ⟨s, j1, j2⟩ := g1 h
      exact ⟨s, j1, j2.sett h5 h6⟩, g2⟩, h1⟩
end Go.Proofs.YtjfkodlddladhaaGreat
