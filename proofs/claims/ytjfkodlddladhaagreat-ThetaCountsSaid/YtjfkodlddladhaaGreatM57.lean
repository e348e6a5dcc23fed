/- Texts of this seat's own, merged: each begins with its own remark. -/
import Derived.Test.YtjfkodlddladhaaGreatM56
import Derived.Test.YtjfkodlddladhaaGreatM50
/- Walks of layer 36: Vectors of the program. -/
namespace Go.Proofs.YtjfkodlddladhaaGreat
open Go.Hp
variable {G : World} {U U' : UH} {M : MH}
abbrev TIss : Nat := 49
theorem idx_pre {p : Nat → Bool} : ∀ {k N : Nat}, k ≤ N → ∃ r, Bx.idx p N = Bx.idx p k ++ r
  | k, 0, h => by
    obtain rfl : k = 0 := by omega
    exact ⟨[], rfl⟩
  | k, N + 1, h => by
    by_cases e : k = N + 1
    · subst e; exact ⟨[], (List.append_nil _).symm⟩
    · obtain ⟨r, hr⟩ := idx_pre (p := p) (show k ≤ N by omega)
      rw [Bx.idx_next]
      split
      · exact ⟨r ++ [N], by rw [hr, List.append_assoc]⟩
      · exact ⟨r, hr⟩
theorem idx_at {p : Nat → Bool} {k N : Nat} (hk : k < N) (hp : p k = true) : (Bx.idx p (k + 1)).length = (Bx.idx p k).length + 1 ∧ (Bx.idx p N).getD (Bx.idx p k).length 0 = k := by
  have h1 : Bx.idx p (k + 1) = Bx.idx p k ++ [k] := by rw [Bx.idx_next, if_pos hp]
  obtain ⟨r, hr⟩ := idx_pre (p := p) (show k + 1 ≤ N by omega)
  refine ⟨by rw [h1, List.length_append]; rfl, ?_⟩
  rw [hr, h1, List.append_assoc, List.getD_eq_getElem?_getD, List.getElem?_append_right (Nat.le_refl _), Nat.sub_self]
  rfl
theorem idx_no {p : Nat → Bool} {k : Nat} (hp : p k = false) : Bx.idx p (k + 1) = Bx.idx p k := by rw [Bx.idx_next, if_neg (by rw [hp]; decide)]
def VecI (n : Nat) (A : Nat → Nat → Int) (b9 b3 : Nat) (m : Int) (X : MH) (U : UH) (t : Nat) (L : MH) : Prop :=
  ∃ (Q : Option Addr) (C : Nat) (svs : List Value) (Do : MH) (F : List MH), L = (b9, .var (.slice Q t C), TIss) :: (b3, .var (.int .i64 m), TInt) :: (Do ++ (F.flatten ++ X)) ∧ RowO TIs 1 Do Q t C svs ∧ Gz Vz zO n U svs F A
theorem tv1_cx {n t c q b9 b3 : Nat} {m : Int} {px : Option Addr} {xs : List Value} {A : Nat → Nat → Int} {E X L : MH} (hx : RowAt U E 1 px n xs) (hI : VecI n A b9 b3 m X U t L) (hel : (q : Int) = m → El Vz U xs (A t)) (ht : t ≤ 1048576) (hn : n ≤ 8) :
    Cx Tryz.prog 62 [.slice px n c, .int .i64 (q : Int), .pointer (some ⟨b3, 0, none⟩), .pointer (some ⟨b9, 0, none⟩)] G U (E ++ L)
      fun _ U' M' => ∃ L', M' = E ++ L' ∧ VecI n A b9 b3 m X U' (if (q : Int) = m then t + 1 else t) L' := by
  obtain ⟨Q, C, svs, Do, F, rfl, hrow, hg⟩ := hI
  refine ((?_ : Cx Tryz.prog 62 [.slice px n c, .int .i64 (q : Int), .pointer (some ⟨b3, 0, none⟩), .pointer (some ⟨b9, 0, none⟩)] G U ((b9, .var (.slice Q t C), TIss) :: (b3, .var (.int .i64 m), TInt) :: (Do ++ (F.flatten ++ (E ++ X)))) (fun _ U' M' => ∃ (Q : Option Addr) (C : Nat) (svs : List Value) (Do : MH) (F : List MH), M' = (b9, .var (.slice Q (if (q : Int) = m then t + 1 else t) C), TIss) :: (b3, .var (.int .i64 m), TInt) :: (Do ++ (F.flatten ++ (E ++ X))) ∧ RowO TIs 1 Do Q (if (q : Int) = m then t + 1 else t) C svs ∧ Gz Vz zO n U' svs F A)).perm pgj).out fun v U' M' hU' hR => ?_
  · refine cx_of_st Tryz.func62 rfl rfl rfl rfl ?_
    repeat (first | refine run_S ?_ | refine w_box (fun _ => ?_) | refine w_al (fun _ => ?_))
    refine st_eq rfl (fun h => ?_) (fun h => ?_)
    · repeat (first | refine run_S ?_ | refine w_box (fun _ => ?_) | refine w_al (fun _ => ?_))
      refine st_drawM [5, 6] [0, 2, 1, 3, 4, 5, 6] sym (by kernel_rfl) ?_
      repeat (first | refine run_S ?_ | refine w_box (fun _ => ?_) | refine w_al (fun _ => ?_))
      refine w_bs0 (fun b10 => ?_)
      try refine run_s ?_
      have hel' := hel h
      have hlen := hrow.len
      refine w_app0 (hx.up uc sb) (El.ones hel' fun _ _ h => one_z h) (fun q4 c4 D4 hr4 => ?_)
      try refine run_s ?_
      refine w_push hrow (X := D4 ++ ((b10, .arr [], TInt) :: (b9, .var (.slice Q t C), TIss) :: (b3, .var (.int .i64 m), TInt) :: (F.flatten ++ (E ++ X)))) pgj (fun b P2 C2 D2 hr2 => ?_)
      refine sl_perm (M' := (b9, .var (.slice Q t C), TIss) :: (b3, .var (.int .i64 m), TInt) :: (b10, .arr [], TInt) :: (D2 ++ ((F ++ [D4]).flatten ++ (E ++ X)))) ?_ pgj
      repeat (first | refine run_S ?_ | refine w_box (fun _ => ?_) | refine w_al (fun _ => ?_))
      have hg2 := hg.snoc (n := t) hlen.1 hr4.len.2.1 hr4 hel'
      refine sk_retX (M' := (b9, .var (.slice P2 (t + 1) C2), TIss) :: (b3, .var (.int .i64 m), TInt) :: (D2 ++ ((F ++ [D4]).flatten ++ (E ++ X)))) sym rfl .nil uc (List.Sublist.cons_cons _ (List.Sublist.cons_cons _ (List.Sublist.cons _ (List.Sublist.refl _)))) (.inr rfl) ⟨P2, C2, _, D2, F ++ [D4], ?_, ?_, hg2⟩
      · rw [if_pos h]
      · rw [if_pos h]; exact hr2
    · repeat (first | refine run_S ?_ | refine w_box (fun _ => ?_) | refine w_al (fun _ => ?_))
      refine sk_retX sym rfl .nil uc (List.Sublist.refl _) (.inr rfl) ⟨Q, C, svs, Do, F, ?_, ?_, hg⟩
      · rw [if_neg h]
      · rw [if_neg h]; exact hrow
  · obtain ⟨Q, C, svs, Do, F, rfl, h1, h2⟩ := hR
    exact ⟨E ++ ((b9, .var (.slice Q (if (q : Int) = m then t + 1 else t) C), TIss) :: (b3, .var (.int .i64 m), TInt) :: (Do ++ (F.flatten ++ X))), pgj, _, rfl, Q, C, svs, Do, F, rfl, h1, h2⟩
def pv (n : Nat) (f : Nat → Int) (b : Nat → Nat) (m : Nat) : Nat → Bool := fun k => vn n f b k == m
def vv (n : Nat) (f : Nat → Int) (b : Nat → Nat) (m : Nat) : Nat → Nat → Int := fun i => Bx.vec b n ((Bx.idx (pv n f b m) (Bx.pre b n)).getD i 0)
def VecO (n : Nat) (f : Nat → Int) (m : Nat) (U : UH) (v : Value) : Prop :=
  ∃ X, Inv n f X ∧ (Bx.pre (bd X m) n ≤ 1048576 → ∃ s, v = .tuple #[s, .int .i64 0] ∧ Ls (Vrs Vz n) 1 (Bx.idx (pv n f (bd X m) m) (Bx.pre (bd X m) n)).length U [] s (vv n f (bd X m) m)) ∧
    (1048576 < Bx.pre (bd X m) n → v = .tuple #[.slice none 0 0, .int .i64 7])
theorem idx_le (p : Nat → Bool) (N : Nat) : (Bx.idx p N).length ≤ N := by rw [Bx.idx_len]; exact cnt_le p N
def VecC (n : Nat) (f : Nat → Int) (m : Nat) (U : UH) (D : MH) (v : Value) : Prop :=
  ∃ X, Inv n f X ∧ (Bx.pre (bd X m) n ≤ 1048576 → ∃ s, v = .tuple #[s, .int .i64 0] ∧ Goz Vz zO (Bx.idx (pv n f (bd X m) m) (Bx.pre (bd X m) n)).length n U D s (vv n f (bd X m) m)) ∧
    (1048576 < Bx.pre (bd X m) n → v = .tuple #[.slice none 0 0, .int .i64 7])
theorem tVectors_co {r m : Int} {N c : Nat} {p : Option Addr} {vs : List Value} {f : Nat → Int} (rw1 : RowAt U [] 1 p N vs) (el : El Vz U vs f) (hN : N ≤ 9223372036854775807) (h64 : -9223372036854775808 ≤ m ∧ m ≤ 9223372036854775807) :
    Ct Tryz.prog 24 [.agg #[.int .i64 r, .slice p N c], .int .i64 m] G U M fun v U' D => (chk r N f ≠ 0 → v = .tuple #[.slice none 0 0, .int .i64 (chk r N f)]) ∧
      (chk r N f = 0 → 1000 < m → v = .tuple #[.slice none 0 0, .int .i64 2]) ∧ (chk r N f = 0 → m < 0 → v = .tuple #[.slice none 0 0, .int .i64 0]) ∧
      (∀ n k : Nat, r = (n : Int) → m = (k : Int) → k ≤ 1000 → chk r N f = 0 → VecC n f k U' D v) := by
  refine ct_of_st Tryz.func24 rfl rfl rfl rfl ?_
  repeat (first | refine run_S ?_ | refine w_box (fun _ => ?_) | refine w_al (fun _ => ?_))
  rename_i b2 b3
  refine sl_call rfl rfl rfl rfl rfl rfl (fun _ => tCheck_ct (rw1.up uc (List.nil_sublist _)) (el.up KeptC.out uc) hN) ?_
  rintro v1 U1 D hU1 ⟨rfl, -, rfl⟩
  rw [List.nil_append]
  repeat (first | refine run_S ?_ | refine w_box (fun _ => ?_) | refine w_al (fun _ => ?_))
  refine st_ne rfl (fun h => ?_) (fun h => ?_)
  · repeat (first | refine run_S ?_ | refine w_box (fun _ => ?_) | refine w_al (fun _ => ?_))
    exact sk_ret [] sym rfl (.cons (.tmp rfl) (.cons (.tmp rfl) .nil)) uc sb (.inl rfl) ⟨fun _ => rfl, fun h2 => absurd h2 h, fun h2 => absurd h2 h, fun _ _ _ _ _ h2 => absurd h2 h⟩
  obtain ⟨n, rfl, hn1, hn8, rfl, hb, he, hp⟩ := chk_zero h
  rw [h]
  repeat (first | refine run_S ?_ | refine w_box (fun _ => ?_) | refine w_al (fun _ => ?_))
  refine st_dec rfl (fun h1 => ?_) (fun h1 => ?_)
  · repeat (first | refine run_S ?_ | refine w_box (fun _ => ?_) | refine w_al (fun _ => ?_))
    exact sk_ret [] sym rfl (.cons (.tmp rfl) (.cons (.tmp rfl) .nil)) uc sb (.inl rfl) ⟨fun h2 => absurd rfl h2, fun _ _ => rfl, fun _ h2 => by omega, fun _ k _ e _ _ => by omega⟩
  repeat (first | refine run_S ?_ | refine w_box (fun _ => ?_) | refine w_al (fun _ => ?_))
  refine st_dec rfl (fun h2 => ?_) (fun h2 => ?_)
  · repeat (first | refine run_S ?_ | refine w_box (fun _ => ?_) | refine w_al (fun _ => ?_))
    exact sk_ret [] sym rfl (.cons (.tmp rfl) (.cons (.tmp rfl) .nil)) uc sb (.inl rfl) ⟨fun h2 => absurd rfl h2, fun _ h3 => by omega, fun _ _ => rfl, fun _ k _ e _ _ => by omega⟩
  obtain ⟨m, rfl⟩ : ∃ k : Nat, m = (k : Int) := ⟨m.toNat, by omega⟩
  have hpd := (pdm_pdf he hp).2.1
  have hfin : ∀ v U8 D8, VecC n f m U8 D8 v → ((0 : Int) ≠ 0 → v = .tuple #[.slice none 0 0, .int .i64 0]) ∧ ((0 : Int) = 0 → 1000 < (m : Int) → v = .tuple #[.slice none 0 0, .int .i64 2]) ∧ ((0 : Int) = 0 → (m : Int) < 0 → v = .tuple #[.slice none 0 0, .int .i64 0]) ∧
      (∀ n' k : Nat, (n : Int) = (n' : Int) → (m : Int) = (k : Int) → k ≤ 1000 → (0 : Int) = 0 → VecC n' f k U8 D8 v) := fun v U8 D8 hv => ⟨fun h => absurd rfl h, fun _ h3 => by omega, fun _ h3 => by omega, fun n' k e1 e2 _ _ => by
    obtain rfl : n = n' := Int.ofNat.inj e1
    obtain rfl : m = k := Int.ofNat.inj e2
    exact hv⟩
  repeat (first | refine run_S ?_ | refine w_box (fun _ => ?_) | refine w_al (fun _ => ?_))
  refine sl_call rfl rfl rfl rfl rfl rfl (fun _ => tbox_ct (m := m) (rw1.up uc (List.nil_sublist _)) (el.up KeptC.out uc) hb he hp hn1 hn8 (by omega)) ?_
  rintro v7 U7 D7 hU7 ⟨X, hX, hbx1, hbx2, rfl⟩
  rw [List.nil_append]
  rcases Nat.lt_or_ge 1048576 (Bx.pre (bd X m) n) with hbig | hbx
  · obtain rfl := hbx2 hbig
    have hc8 := hfin (tup [.slice none 0 0, .int .i64 7]) U7 [] ⟨X, hX, fun h => by omega, fun _ => rfl⟩
    repeat (first | refine run_S ?_ | refine w_box (fun _ => ?_) | refine w_al (fun _ => ?_))
    exact sk_ret [] sym rfl (.cons (.tmp rfl) (.cons (.tmp rfl) .nil)) uc sb (.inl rfl) hc8
  obtain ⟨_, rfl, pb, cb, bs, rfl, hcb, rb, eb⟩ := hbx1 hbx
  obtain ⟨b, hbd⟩ : ∃ b, b = bd X m := ⟨_, rfl⟩
  rw [← hbd] at hbx eb
  have hsd : ∀ i, i < n → b i ≤ 1048576 := fun i hi => by have := side_le hi hbx; omega
  repeat (first | refine run_S ?_ | refine w_box (fun _ => ?_) | refine w_al (fun _ => ?_))
  rename_i b9
  refine sl_y (yl_makeFunc rfl rfl) rfl rfl rfl rfl ?_
  have hka : Bx.all b n = Bx.pre b n := Bx.pre_vol _
  have hst : Stp 62 [.pointer (some ⟨b3, 0, none⟩), .pointer (some ⟨b9, 0, none⟩)] G U7 n f b
      (fun k U L => VecI n (vv n f b m) b9 b3 (m : Int) ((b2, .var (.agg #[.int .i64 (n : Int), .slice p (n * n) c]), 24) :: M) U (Bx.idx (pv n f b m) k).length L) := by
    intro k U1 L E px cx xs hk hU hI hrx hex
    rw [qv_vn hpd]
    have hkp : k < Bx.pre b n := by rw [← hka]; exact hk
    refine (tv1_cx hrx hI (fun hq => ?_) (Nat.le_trans (idx_le _ _) (by omega)) hn8).mono fun v U' M' _ hR => ?_
    · have hpk : pv n f b m k = true := beq_iff_eq.2 (Int.ofNat.inj hq)
      have h5 := (idx_at hkp hpk).2
      show El Vz U1 xs (vv n f b m (Bx.idx (pv n f b m) k).length)
      unfold vv
      rw [h5]; exact hex
    · obtain ⟨L', e, hL⟩ := hR
      refine ⟨L', e, ?_⟩
      by_cases hq : (vn n f b k : Int) = (m : Int)
      · rw [if_pos hq] at hL
        have hpk : pv n f b m k = true := beq_iff_eq.2 (Int.ofNat.inj hq)
        rw [(idx_at hkp hpk).1]; exact hL
      · rw [if_neg hq] at hL
        have hpk : pv n f b m k = false := by
          unfold pv
          exact beq_eq_false_iff_ne.2 (fun e => hq (by rw [e]))
        rw [idx_no hpk]; exact hL
  refine sl_perm (M' := (b9, .var (.slice none 0 0), TIss) :: (b3, .var (.int .i64 (m : Int)), TInt) :: ([] ++ (([] : List MH).flatten ++ ((b2, .var (.agg #[.int .i64 (n : Int), .slice p (n * n) c]), 24) :: M)))) ?_ (List.Perm.refl _)
  refine sl_callC rfl rfl rfl rfl rfl rfl (teach_cx (rw1.up uc (List.nil_sublist _)) (el.up KeptC.out uc) hb (rb.up uc (List.nil_sublist _)) (eb.up KeptC.out uc) hsd hn1 hn8 hst ⟨none, 0, [], [], [], rfl, RowO.nil, Gz.nil⟩) ?_
  rintro v8 U8 M8 hU8 ⟨Q, C, svs, Do, F, rfl, hrow, hg⟩
  rw [hka] at hrow ⊢
  have hc8 := hfin (tup [.slice Q (Bx.idx (pv n f b m) (Bx.pre b n)).length C, .int .i64 0]) U8 (Do ++ F.flatten) ⟨X, hX, fun _ => ⟨_, rfl, by rw [← hbd]; exact ⟨Do, F, Q, C, svs, rfl, rfl, hrow, hg⟩⟩, fun h => by rw [← hbd] at h; omega⟩
  refine sl_perm (M' := (b9, .var (.slice Q (Bx.idx (pv n f b m) (Bx.pre b n)).length C), TIss) :: (b3, .var (.int .i64 (m : Int)), TInt) :: (b2, .var (.agg #[.int .i64 (n : Int), .slice p (n * n) c]), 24) :: ((Do ++ F.flatten) ++ M)) ?_ pgj
  repeat (first | refine run_S ?_ | refine w_box (fun _ => ?_) | refine w_al (fun _ => ?_))
  exact sk_ret (Do ++ F.flatten) sym rfl (.cons (.tmp rfl) (.cons (.tmp rfl) .nil)) uc (List.Sublist.cons _ (List.Sublist.cons _ (List.Sublist.cons _ (List.Sublist.refl _)))) (.inl rfl) hc8
theorem tVectors_ct {r m : Int} {N c : Nat} {p : Option Addr} {vs : List Value} {f : Nat → Int} (rw1 : RowAt U [] 1 p N vs) (el : El Vz U vs f) (hN : N ≤ 9223372036854775807) (h64 : -9223372036854775808 ≤ m ∧ m ≤ 9223372036854775807) :
    Ct Tryz.prog 24 [.agg #[.int .i64 r, .slice p N c], .int .i64 m] G U M fun v U' D => (chk r N f ≠ 0 → v = .tuple #[.slice none 0 0, .int .i64 (chk r N f)]) ∧
      (chk r N f = 0 → 1000 < m → v = .tuple #[.slice none 0 0, .int .i64 2]) ∧ (chk r N f = 0 → m < 0 → v = .tuple #[.slice none 0 0, .int .i64 0]) ∧
      (∀ n k : Nat, r = (n : Int) → m = (k : Int) → k ≤ 1000 → chk r N f = 0 → VecO n f k U' v) ∧ D = [] :=
  (tVectors_co rw1 el hN h64).settle.mono fun _ _ _ _ ⟨h1, _, _, ⟨k1, k2, k3, k4⟩, _, h5, h6⟩ => ⟨k1, k2, k3, fun n k e1 e2 e3 e4 => by
    obtain ⟨X, hX, g1, g2⟩ := k4 n k e1 e2 e3 e4
    exact ⟨X, hX, fun h => by
      obtain ⟨s, j1, j2⟩ := g1 h
      exact ⟨s, j1, j2.sett h5 h6⟩, g2⟩, h1⟩
end Go.Proofs.YtjfkodlddladhaaGreat

/- Layer 36: the vectors of a number come in pairs (plain). -/
namespace Go.Proofs.YtjfkodlddladhaaGreat
open Go.Hp
variable {G : World} {U U' : UH} {M : MH}
theorem qv_neg {n : Nat} {f x : Nat → Int} : qv n f (fun i => -x i) = qv n f x := by
  unfold qv qp rp
  rw [Lr.sm_congr (f := fun a => -x a * Lr.sm n fun j => f (a * n + j) * -x j) (g := fun a => x a * Lr.sm n fun j => f (a * n + j) * x j) fun a _ => by
    rw [Lr.sm_congr (f := fun j => f (a * n + j) * -x j) (g := fun j => -(f (a * n + j) * x j)) fun j _ => Int.mul_neg _ _, Lr.sm_neg]
    exact Int.neg_mul_neg _ _]
theorem vn_rev {n k : Nat} {f : Nat → Int} {b : Nat → Nat} (hk : k < Bx.pre b n) : vn n f b (Bx.pre b n - 1 - k) = vn n f b k := by
  rw [← Bx.pre_vol] at hk ⊢
  unfold vn
  rw [qv_congr (y := fun i => -Bx.vec b n k i) fun i hi => Bx.vec_rev hi hk, qv_neg]
theorem vv_idx {n m i : Nat} {f : Nat → Int} {b : Nat → Nat} (hi : i < (Bx.idx (pv n f b m) (Bx.pre b n)).length) : vv n f b m i = Bx.vec b n ((Bx.idx (pv n f b m) (Bx.pre b n))[i]) := by
  unfold vv
  rw [List.getD_eq_getElem?_getD, List.getElem?_eq_getElem hi]
  rfl
theorem vv_rev {n m i j : Nat} {f : Nat → Int} {b : Nat → Nat} (hi : i < (Bx.idx (pv n f b m) (Bx.pre b n)).length) (hj : j < n) : vv n f b m ((Bx.idx (pv n f b m) (Bx.pre b n)).length - 1 - i) j = -vv n f b m i j := by
  have hm := (Bx.idx_mem (p := pv n f b m) (N := Bx.pre b n)).1 (List.getElem_mem hi)
  rw [vv_idx (i := (Bx.idx (pv n f b m) (Bx.pre b n)).length - 1 - i) (by omega), vv_idx hi, Bx.idx_back (p := pv n f b m) (fun k hk => by unfold pv; rw [vn_rev hk]) hi]
  have key : ∀ k, k < Bx.pre b n → Bx.vec b n (Bx.pre b n - 1 - k) j = -Bx.vec b n k j := fun k hk => by
    rw [← Bx.pre_vol] at hk ⊢
    exact Bx.vec_rev hj hk
  exact key _ hm.1
theorem qp_even {n : Nat} {f x : Nat → Int} (he : Evn n f) : ∃ z, qp n f x n = 2 * z := by
  obtain ⟨z, hz⟩ := Bx.even_val (n := n) (M := fun i j => f (i * n + j)) (fun i j hi hj => (he i hi).1 j hj) (fun i hi => ⟨(f (i * n + i)).tdiv 2, by
    have := Int.tmod_add_mul_tdiv (f (i * n + i)) 2
    have h2 := (he i hi).2
    omega⟩) x
  refine ⟨z, ?_⟩
  rw [← hz]
  unfold qp rp
  exact Lr.sm_congr fun a _ => by
    rw [← Lr.sm_mul]
    exact Lr.sm_congr fun j _ => (Int.mul_assoc _ _ _).symm
theorem vv_val {n m i : Nat} {f : Nat → Int} {b : Nat → Nat} (he : Evn n f) (hp : Pdm n f) (hi : i < (Bx.idx (pv n f b m) (Bx.pre b n)).length) : qp n f (vv n f b m i) n = 2 * (m : Int) := by
  have hm := (Bx.idx_mem (p := pv n f b m) (N := Bx.pre b n)).1 (List.getElem_mem hi)
  have h2 : vn n f b ((Bx.idx (pv n f b m) (Bx.pre b n))[i]) = m := beq_iff_eq.1 hm.2
  rw [vv_idx hi]
  have h3 := qv_vn (k := (Bx.idx (pv n f b m) (Bx.pre b n))[i]) (b := b) (pdm_pdf he hp).2.1
  rw [h2] at h3
  obtain ⟨z, hz⟩ := qp_even (x := Bx.vec b n ((Bx.idx (pv n f b m) (Bx.pre b n))[i])) he
  unfold qv at h3
  rw [hz, Int.mul_tdiv_cancel_left _ (by decide)] at h3
  rw [hz, h3]
def ws (n : Nat) (f x : Nat → Int) (j k : Nat) : Int := (Lr.sm j fun a => Lr.sm n fun k => x a * x k * f (a * n + k)) + Lr.sm k fun t => x j * x t * f (j * n + t)
theorem ws_qp {n : Nat} {f x : Nat → Int} : (Lr.sm n fun a => Lr.sm n fun k => x a * x k * f (a * n + k)) = qp n f x n := by
  unfold qp rp
  exact Lr.sm_congr fun a _ => by
    rw [← Lr.sm_mul]
    exact Lr.sm_congr fun j _ => by rw [Int.mul_assoc, Int.mul_comm (x j)]
theorem ws_bd {n : Nat} {f x : Nat → Int} {j k : Nat} (hn : n ≤ 8) (hj : j < n) (hk : k ≤ n) (hb : ∀ k, k < n * n → -1000 ≤ f k ∧ f k ≤ 1000) (hx : ∀ i, i < n → -1048576 ≤ x i ∧ x i ≤ 1048576) : -80000000000000000 ≤ ws n f x j k ∧ ws n f x j k ≤ 80000000000000000 := by
  have hone : ∀ a t, a < n → t < n → -(1048576 * 1048576 * 1000) ≤ x a * x t * f (a * n + t) ∧ x a * x t * f (a * n + t) ≤ 1048576 * 1048576 * 1000 := fun a t ha ht => mul_bd (mul_bd (hx a ha) (hx t ht)) (hb _ (ij_lt ha ht))
  have h1 : ∀ a, a < j → -(8 * (1048576 * 1048576 * 1000)) ≤ (Lr.sm n fun k => x a * x k * f (a * n + k)) ∧ (Lr.sm n fun k => x a * x k * f (a * n + k)) ≤ 8 * (1048576 * 1048576 * 1000) := fun a ha => by
    have := sm_absl (c := 1048576 * 1048576 * 1000) (n := n) (f := fun k => x a * x k * f (a * n + k)) fun t ht => hone a t (by omega) ht
    have h2 : ((n : Nat) : Int) * (1048576 * 1048576 * 1000) ≤ 8 * (1048576 * 1048576 * 1000) := Int.mul_le_mul_of_nonneg_right (by omega) (by decide)
    omega
  have h3 := sm_absl (n := j) h1
  have h4 : ((j : Nat) : Int) * (8 * (1048576 * 1048576 * 1000)) ≤ 8 * (8 * (1048576 * 1048576 * 1000)) := Int.mul_le_mul_of_nonneg_right (by omega) (by decide)
  have h5 := sm_absl (c := 1048576 * 1048576 * 1000) (n := k) (f := fun t => x j * x t * f (j * n + t)) fun t ht => hone j t hj (by omega)
  have h6 : ((k : Nat) : Int) * (1048576 * 1048576 * 1000) ≤ 8 * (1048576 * 1048576 * 1000) := Int.mul_le_mul_of_nonneg_right (by omega) (by decide)
  unfold ws
  omega
end Go.Proofs.YtjfkodlddladhaaGreat
