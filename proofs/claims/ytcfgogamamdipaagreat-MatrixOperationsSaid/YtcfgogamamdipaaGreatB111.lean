/- Walks of the reference of layer 9: Inverse. -/
import Derived.Test.YtcfgogamamdipaaGreatB110
namespace Go.Proofs.YtcfgogamamdipaaGreat
open Go.Hp
variable {G : World} {U U' : UH} {M M' : MH}

theorem m9Inverse_ct {n b : Nat} {vm : Value} {A : Nat → Nat → Rat} (hm : Vm (Wq b) n n U vm A) (hb1 : 1 ≤ b) (hg : La.gro b n ≤ 1000000000) (hd : La.dbl (La.gro b n) b n ≤ 3000000000) (hn1 : n ≤ 1000) :
    Ct Tryz.prog 29 [vm] G U M fun v U' D => ∃ (vX : Value) (ok : Bool), v = .tuple #[vX, .bool ok] ∧ (ok = true → ∃ X : Nat → Nat → Rat, Vm Vq n n U' vX X ∧ ∀ i j, i < n → j < n → La.mm n X A i j = La.idm i j) ∧ (ok = false → vX = .agg #[.int .i64 0, .int .i64 0, .slice none 0 0] ∧ ∃ i, i < n ∧ ∀ y, ¬ La.Sol n n A (La.idm i) y) ∧ D = [] := by
  have hnn : n * n ≤ 1000 * 1000 := Nat.mul_le_mul hn1 hn1
  have hm2 := hm
  obtain ⟨_, rfl, pa, cm, ms, rfl, -⟩ := hm
  refine ct_of_st Tryz.func29 rfl rfl rfl rfl ?_
  repeat (first | refine run_S ?_ | refine w_box (fun _ => ?_) | refine w_al (fun _ => ?_))
  rename_i b1 b2
  refine st_loop (fun z E U' M' => ∃ (i : Nat) (X : Nat → Nat → Rat) (po : Option Addr) (co : Nat) (ovs : List Value) (Do : MH), i ≤ n ∧ RowO TRs 1 Do po i co ovs ∧ El (Vr n) U' ovs X ∧ (∀ k, k < i → La.Sol n n A (La.idm k) (X k)) ∧ (∀ k j, k < i → j < n → Szq (X k j) (La.dbl (La.gro b n) b n + 3)) ∧
      E = [(4, .slice po i co), (5, .int .i64 (i : Int)), (1, .pointer (some ⟨b1, 0, none⟩)), (2, .pointer (some ⟨b2, 0, none⟩))] ∧ ULe U U' ∧
      M' = (b2, .var (.agg #[.int .i64 0, .int .i64 0, .slice none 0 0]), TM) :: (b1, .var (.agg #[.int .i64 (n : Int), .int .i64 (n : Int), .slice pa (n * n) cm]), TM) :: (Do ++ M) ∧ z = n - i) (n0 := n)
    (E0 := [(4, .slice none 0 0), (5, .int .i64 ((0 : Nat) : Int)), (1, .pointer (some ⟨b1, 0, none⟩)), (2, .pointer (some ⟨b2, 0, none⟩))]) ⟨rfl, rfl, rfl, rfl, trivial⟩ ⟨0, fun _ _ => 0, none, 0, [], [], by omega, RowO.nil, El.nil, (fun k h => absurd h (Nat.not_lt_zero k)), (fun k _ h => absurd h (Nat.not_lt_zero k)), rfl, uc, rfl, rfl⟩ ?_
  rintro z E U1 M' ⟨i, X, po, co, ovs, Do, hi, hrow, hel, hsol, hsz, rfl, hU1, rfl, rfl⟩
  try refine run_s ?_
  refine st_dec rfl (fun h5 => ?_) (fun h5 => ?_)
  · have hin : i < n := by omega
    try refine run_s ?_
    refine st_draw [0, 1, 2, 3, 4, 5, 6, 7, 8, 9, 10] sym (by kernel_rfl) ?_
    try refine run_s ?_
    refine sl_call rfl rfl rfl rfl rfl rfl (fun _ => (m9Unit_ct (n := n) (i := i) (by omega) hin).setl kept_q) ?_
    rintro v2 U2 D hU2 ⟨h2, rfl⟩
    rw [List.nil_append]
    have h3 : Ls (Wq b) 4 n U2 [] v2 (La.idm i) := Ls.toW (Ls.congr h2 fun j _ => by
      unfold La.idm
      by_cases e : j = i
      · rw [if_pos e, if_pos e.symm]
      · rw [if_neg e, if_neg (Ne.symm e)]) fun j _ => by
      unfold La.idm
      split
      · exact szq_int1.mono hb1
      · exact szq_int0.mono hb1
    try refine run_s ?_
    refine sl_call rfl rfl rfl rfl rfl rfl (fun _ => m9Solve_ct (kept_m kept_w _ _ _ _ uc hm2) h3 hb1 hb1 hg hd hn1 hn1) ?_
    rintro v4 U4 D hU4 ⟨hno, hyes, rfl⟩
    rw [List.nil_append]
    rcases Classical.em (∃ y, La.Sol n n A (La.idm i) y) with hy | hy
    · obtain ⟨x, vx, rfl, hx, hxs, sx⟩ := hyes hy
      clear hno hyes
      obtain ⟨px, cx, xs, rfl, hcx, rx, ex⟩ := id hx
      try refine run_s ?_
      refine w_push hrow (perm2 (D := _)).symm (fun bhr2 phr2 chr2 Dhr2 hr2 => ?_)
      refine sl_perm ?_ (perm2 (D := Dhr2))
      repeat (first | refine run_S ?_ | refine w_box (fun _ => ?_) | refine w_al (fun _ => ?_))
      refine sk_again (E' := [(4, .slice phr2 (i + 1) chr2), (5, .int .i64 ((i : Int) + 1)), (1, .pointer (some ⟨b1, 0, none⟩)), (2, .pointer (some ⟨b2, 0, none⟩))]) (m := n - (i + 1)) ⟨rfl, rfl, rfl, rfl, trivial⟩ (by omega)
        ⟨i + 1, La.setr X i x, phr2, chr2, _, Dhr2, by omega, hr2, ?_, (fun k hk => ?_), (fun k j hk hj => ?_), rfl, uc, rfl, rfl⟩
      · exact snoc_ok hrow.len.1 ((hel.up kept_r uc).congr hrow.len.1 fun k hk => (La.setr_ne X x (by omega)).symm) (by rw [La.setr_at]; exact hx)
      · by_cases e : k = i
        · rw [e, La.setr_at]; exact hxs.1
        · rw [La.setr_ne X x e]; exact hsol k (by omega)
      · by_cases e : k = i
        · rw [e, La.setr_at]; exact sx j hj
        · rw [La.setr_ne X x e]; exact hsz k j (by omega) hj
    · obtain rfl := hno fun y hs => hy ⟨y, hs⟩
      clear hno hyes
      repeat (first | refine run_S ?_ | refine w_box (fun _ => ?_) | refine w_al (fun _ => ?_))
      exact sk_ret [] sym rfl (.cons (.cell 0 rfl rfl rfl) (.cons (.tmp rfl) .nil)) uc sb (.inl rfl) ⟨_, false, rfl, (fun h => by cases h), (fun _ => ⟨rfl, i, hin, fun y hs => hy ⟨y, hs⟩⟩), rfl⟩
  · have e : i = n := by omega
    subst e
    try refine run_s ?_
    refine sl_call rfl rfl rfl rfl rfl rfl (fun _ => ct_setm (m9Of_ct (b := La.dbl (La.gro b i) b i + 3) (Ls.toWr (Ls.up (M' := _) ⟨po, co, ovs, rfl, hrow.len.2.1, hrow.at (List.Sublist.refl _), hel⟩ kept_r uc sb) fun k j hk hj => hsz k j hk hj) (by omega) (by omega) (by omega) (by omega))) ?_
    rintro vh8 Uh8 D hU ⟨h8, rfl⟩
    rw [List.nil_append]
    repeat (first | refine run_S ?_ | refine w_box (fun _ => ?_) | refine w_al (fun _ => ?_))
    obtain ⟨_, rfl, p8, c8, va, rfl, h9⟩ := h8
    repeat (first | refine run_S ?_ | refine w_box (fun _ => ?_) | refine w_al (fun _ => ?_))
    exact sk_ret [] sym rfl (.cons (.cell 0 rfl rfl rfl) (.cons (.tmp rfl) .nil)) uc sb (.inl rfl) ⟨_, true, rfl, (fun _ => ⟨X, ⟨_, rfl, p8, c8, va, rfl, h9⟩, fun k j hk hj => (hsol k hk j hj).symm⟩), (fun h => by cases h), rfl⟩

end Go.Proofs.YtcfgogamamdipaaGreat
