/- Walks of layer 36: unit, Prec, Coef. -/
import Derived.Test.YtjfkodlddladhaaGreatB218
import Derived.Test.YtjfkodlddladhaaGreatM17
namespace Go.Proofs.YtjfkodlddladhaaGreat
open Go.Hp
variable {G : World} {U U' : UH} {M : MH}
theorem unit_co {n : Nat} (h1 : 1 ≤ n) (hn : n ≤ 8) : Ct Tryz.prog 19 [.int .i64 (n : Int)] G U M fun v U' D => (∃ a, v = .agg #[.int .i64 (n : Int), a] ∧ Lo Vz TInt 1 (n * n) U' D a (fu n)) ∧ ULe U U' := by
  have hnn : n * n ≤ 8 * 8 := Nat.mul_le_mul hn hn
  have hni : (n : Int) * (n : Int) = ((n * n : Nat) : Int) := (Int.natCast_mul n n).symm
  refine ct_of_st Tryz.func19 rfl rfl rfl rfl ?_
  repeat (first | refine run_S ?_ | refine w_box (fun _ => ?_) | refine w_al (fun _ => ?_))
  rename_i b2
  refine sl_make (m := n * n) (n := n * n) sym rfl rfl rfl rfl rfl hni hni rfl rfl (Nat.le_refl _) (by omega) (by omega) rfl rfl rfl rfl (fun b9 => ?_)
  have hrow := rowO_make (e := TInt) (s := 1) (b := b9) (n := n * n) (z := .int .i64 0) rfl (by omega)
  repeat (first | refine run_S ?_ | refine w_box (fun _ => ?_) | refine w_al (fun _ => ?_))
  rename_i b3
  refine st_perm (M' := (b3, .var (.agg #[.int .i64 (n : Int), .slice (some ⟨b9, 0, none⟩) (n * n) (n * n)]), 24) :: (([(b9, Blk.arr (List.replicate (n * n) (.int .i64 0)), TInt)] : MH) ++ ((b2, .var (.agg #[.int .i64 0, .slice none 0 0]), 24) :: M))) (List.Perm.refl _) ?_
  refine st_perm (M' := (b3, .var (.agg #[.int .i64 (n : Int), .slice (some ⟨b9, 0, none⟩) (n * n) (n * n)]), 24) :: (b2, .var (.agg #[.int .i64 0, .slice none 0 0]), 24) :: (([(b9, Blk.arr (List.replicate (n * n) (.int .i64 0)), TInt)] : MH) ++ M)) pgs ?_
  have hx0 : ∀ k, k < n * n → (List.replicate (n * n) (Value.int .i64 0))[k]? = some (.int .i64 (if k / n = k % n ∧ k / n < 0 then 2 else 0)) := fun k hk => by
    rw [List.getElem?_replicate, if_pos hk, if_neg (fun h => absurd h.2 (Nat.not_lt_zero _))]
  generalize List.replicate (n * n) (Value.int .i64 0) = xs0 at hrow hx0 ⊢
  generalize [(b9, Blk.arr xs0, TInt)] = D0 at hrow ⊢
  try refine st_anti (M' := (b3, .var (.agg #[.int .i64 (n : Int), .slice (some ⟨b9, 0, none⟩) (n * n) (n * n)]), 24) :: (b2, .var (.agg #[.int .i64 0, .slice none 0 0]), 24) :: (D0 ++ M)) (ULe.refl _) sbk ?_
  refine st_loop (fun z E U' M' => ∃ (i : Nat) (xs : List Value) (Dx : MH), i ≤ n ∧ RowO TInt 1 Dx (some ⟨b9, 0, none⟩) (n * n) (n * n) xs ∧ (∀ k, k < n * n → xs[k]? = some (.int .i64 (if k / n = k % n ∧ k / n < i then 2 else 0))) ∧ U = U' ∧ E = [(4, .int .i64 (i : Int)), (3, .pointer (some ⟨b3, 0, none⟩)), (2, .pointer (some ⟨b2, 0, none⟩)), (0, .int .i64 (n : Int))] ∧ ULe U U' ∧ M' = (b3, .var (.agg #[.int .i64 (n : Int), .slice (some ⟨b9, 0, none⟩) (n * n) (n * n)]), 24) :: (b2, .var (.agg #[.int .i64 0, .slice none 0 0]), 24) :: (Dx ++ M) ∧ z = n - i) (n0 := n - 0) (E0 := [(4, .int .i64 ((0 : Nat) : Int)), (3, .pointer (some ⟨b3, 0, none⟩)), (2, .pointer (some ⟨b2, 0, none⟩)), (0, .int .i64 (n : Int))]) ⟨rfl, rfl, rfl, rfl, trivial⟩ ⟨0, xs0, D0, by omega, hrow, hx0, rfl, rfl, uc, rfl, rfl⟩ ?_
  clear hrow hx0
  rintro z E U1 M' ⟨i, xs, Dx, hi, hrow, hx, rfl, rfl, hU1, rfl, rfl⟩
  try refine run_s ?_
  refine st_dec rfl (fun h => ?_) (fun h => ?_)
  · have hin : i < n := by omega
    have hl := ij_lt hin hin
    have hii : (i : Int) * (n : Int) + (i : Int) = ((i * n + i : Nat) : Int) := by rw [Int.natCast_add, Int.natCast_mul]
    repeat (first | refine run_S ?_ | refine w_box (fun _ => ?_) | refine w_al (fun _ => ?_))
    refine w_addr (j := i * n + i) hl rfl ?_
    refine w_storeR (v := .int .i64 2) (X := (b3, .var (.agg #[.int .i64 (n : Int), .slice (some ⟨b9, 0, none⟩) (n * n) (n * n)]), 24) :: (b2, .var (.agg #[.int .i64 0, .slice none 0 0]), 24) :: M) hrow pgs hl (fun D3 hr3 => ?_)
    refine sl_perm (M' := (b3, .var (.agg #[.int .i64 (n : Int), .slice (some ⟨b9, 0, none⟩) (n * n) (n * n)]), 24) :: (b2, .var (.agg #[.int .i64 0, .slice none 0 0]), 24) :: (D3 ++ M)) ?_ pgs
    have hlen := hrow.len.1
    repeat (first | refine run_S ?_ | refine w_box (fun _ => ?_) | refine w_al (fun _ => ?_))
    refine sk_again (E' := [(4, .int .i64 ((i : Int) + 1)), (3, .pointer (some ⟨b3, 0, none⟩)), (2, .pointer (some ⟨b2, 0, none⟩)), (0, .int .i64 (n : Int))]) (m := n - (i + 1)) ⟨rfl, rfl, rfl, rfl, trivial⟩ (by omega) ⟨i + 1, xs.set (i * n + i) (.int .i64 2), D3, by omega, hr3, (fun k hk => by
      by_cases e : i * n + i = k
      · subst e
        have e1 : (i * n + i) / n = i := by rw [Nat.mul_comm, Nat.mul_add_div (by omega), Nat.div_eq_of_lt hin]; rfl
        have e2 : (i * n + i) % n = i := by rw [Nat.mul_comm, Nat.mul_add_mod, Nat.mod_eq_of_lt hin]
        rw [List.getElem?_set_self (by omega), if_pos ⟨by rw [e1, e2], by omega⟩]
      · rw [List.getElem?_set_ne e, hx k hk]
        have e3 : (k / n = k % n ∧ k / n < i) ↔ (k / n = k % n ∧ k / n < i + 1) := by
          constructor
          · exact fun h => ⟨h.1, by omega⟩
          · rintro ⟨h1, h2⟩
            refine ⟨h1, ?_⟩
            rcases Nat.lt_or_eq_of_le (Nat.le_of_lt_succ h2) with h3 | h3
            · exact h3
            · have := Nat.div_add_mod k n
              rw [← h1, h3, Nat.mul_comm] at this
              exact absurd this e
        simp only [e3]), rfl, rfl, uc, rfl, rfl⟩
  obtain rfl : n = i := by omega
  repeat (first | refine run_S ?_ | refine w_box (fun _ => ?_) | refine w_al (fun _ => ?_))
  exact sk_ret Dx sym rfl (.cons (.cell 1 rfl rfl rfl) .nil) uc sb (.inl rfl) ⟨⟨_, rfl, _, _, xs, rfl, hrow, fun k x hk => by
    have hkn : k < n * n := by
      have := (List.getElem?_eq_some_iff.1 hk).1
      have := hrow.len.1
      omega
    have h2 := hx k hkn
    rw [hk] at h2
    cases h2
    have h3 := (fl_lt hkn).1
    unfold fu
    by_cases e : k / n = k % n
    · rw [if_pos e, if_pos ⟨e, h3⟩]; exact ⟨rfl, by decide, by decide⟩
    · rw [if_neg e, if_neg (fun h => e h.1)]; exact ⟨rfl, by decide, by decide⟩⟩, uc⟩
theorem unit_ct {n : Nat} (h1 : 1 ≤ n) (hn : n ≤ 8) : Ct Tryz.prog 19 [.int .i64 (n : Int)] G U M fun v U' D => (∃ a, v = .agg #[.int .i64 (n : Int), a] ∧ Ls Vz 1 (n * n) U' [] a (fu n)) ∧ D = [] :=
  (unit_co h1 hn).settle.mono fun _ _ _ _ ⟨k1, _, _, ⟨⟨a, k2, k3⟩, _⟩, _, k5, k6⟩ => ⟨⟨a, k2, k3.sett KeptC.out k5 k6⟩, k1⟩
theorem r33Prec_ct {ok : UH → Value → Rat → Prop} {v : Value} {f : Int} {N : Nat} {g : Nat → Rat} (h : Vser ok U M v f N g) (hf : -9223372036854775808 ≤ f + N ∧ f + N ≤ 9223372036854775807) :
    Ct Tryz.prog 20 [v] G U M fun v U' D => v = .int .i64 (f + N) ∧ U = U' ∧ D = [] := by
  obtain ⟨_, rfl, p, c, vs, rfl, -⟩ := h
  refine ct_of_st Tryz.func20 rfl rfl rfl rfl ?_
  repeat (first | refine run_S ?_ | refine w_box (fun _ => ?_) | refine w_al (fun _ => ?_))
  exact sk_ret [] sym rfl (.cons (.tmp rfl) .nil) uc sb (.inl rfl) ⟨rfl, rfl, rfl⟩
theorem r33Coef_ct {v : Value} {f n : Int} {N b : Nat} {g : Nat → Rat} (h : Vser Vq U M v f N g) (hz : ∀ k, k < N → Szq (g k) b) (hb : b ≤ 100000000) (hN : N ≤ 1000000000) (hf : -1000000 ≤ f ∧ f ≤ 1000000) (hn : -1000000 ≤ n ∧ n ≤ 1000000) :
    Ct Tryz.prog 22 [v, .int .i64 n] G U M fun v U' D => ∃ x : QV, v = x.v ∧ x.nrm U' [] (if n < f ∨ f + N ≤ n then 0 else g (n - f).toNat) ∧ D = [] := by
  obtain ⟨_, rfl, p, c, vs, rfl, hc, rx, ex⟩ := h
  refine ct_of_st Tryz.func22 rfl rfl rfl rfl ?_
  repeat (first | refine run_S ?_ | refine w_box (fun _ => ?_) | refine w_al (fun _ => ?_))
  rename_i b2 b4
  refine sl_gdec rfl rfl (fun h1 => ?_) (fun h1 => ?_)
  · repeat (first | refine run_S ?_ | refine w_box (fun _ => ?_) | refine w_al (fun _ => ?_))
    refine sl_call rfl rfl rfl rfl rfl rfl (fun _ => (bQ_ct (z := 0) (by decide) (by decide)).settle) ?_
    rintro v Uh5 D hU ⟨rfl, _, _, ⟨xh5, rfl, h5, -⟩, -, -, hs⟩
    replace h5 := h5.sett hs
    clear hs
    repeat (first | refine run_S ?_ | refine w_box (fun _ => ?_) | refine w_al (fun _ => ?_))
    rw [if_pos (.inl h1)]
    exact sk_ret [] sym rfl (.cons (.cell 0 rfl rfl rfl) .nil) uc sb (.inl rfl) ⟨xh5, rfl, h5, rfl⟩
  repeat (first | refine run_S ?_ | refine w_box (fun _ => ?_) | refine w_al (fun _ => ?_))
  refine st_dec rfl (fun h2 => ?_) (fun h2 => ?_)
  · repeat (first | refine run_S ?_ | refine w_box (fun _ => ?_) | refine w_al (fun _ => ?_))
    refine sl_call rfl rfl rfl rfl rfl rfl (fun _ => (bQ_ct (z := 0) (by decide) (by decide)).settle) ?_
    rintro v Uh5 D hU ⟨rfl, _, _, ⟨xh5, rfl, h5, -⟩, -, -, hs⟩
    replace h5 := h5.sett hs
    clear hs
    repeat (first | refine run_S ?_ | refine w_box (fun _ => ?_) | refine w_al (fun _ => ?_))
    rw [if_pos (.inr h2)]
    exact sk_ret [] sym rfl (.cons (.cell 0 rfl rfl rfl) .nil) uc sb (.inl rfl) ⟨xh5, rfl, h5, rfl⟩
  obtain ⟨k, rfl⟩ : ∃ k : Nat, n = f + k := ⟨(n - f).toNat, by omega⟩
  have hkN : k < N := by omega
  obtain ⟨v1, hv1⟩ := rx.at hkN
  obtain ⟨x1, rfl, hx1⟩ := ex _ _ hv1
  rw [if_neg (by omega), show (f + (k : Int) - f).toNat = k by omega]
  repeat (first | refine run_S ?_ | refine w_box (fun _ => ?_) | refine w_al (fun _ => ?_))
  refine sl_y (yl_index sym rfl rfl rfl rfl rfl ( (show _ = ((k : Nat) : Int) by omega)) ((rx.up uc sb).lt hv1) ((rx.up uc sb).get _ _ hv1).1) rfl rfl rfl rfl ?_; refine sl_y (yl_loadRs sym rfl rfl rfl rfl rfl (rx.up uc sb) hv1) rfl rfl rfl rfl ?_
  repeat (first | refine run_S ?_ | refine w_box (fun _ => ?_) | refine w_al (fun _ => ?_))
  refine sl_call rfl rfl rfl rfl rfl rfl (fun _ => rqNormal_ct (hx1.rep.up uc (List.nil_sublist _)) (hx1.le (hz k hkN) (by omega))) ?_
  rintro v Uh6 D hU ⟨xh6, rfl, h6, rfl⟩
  repeat (first | refine run_S ?_ | refine w_box (fun _ => ?_) | refine w_al (fun _ => ?_))
  exact sk_ret [] sym rfl (.cons (.cell 0 rfl rfl rfl) .nil) uc sb (.inl rfl) ⟨xh6, rfl, h6, rfl⟩
end Go.Proofs.YtjfkodlddladhaaGreat
