/- Walks of the reference of layer 12: determinants of integers. -/
import Derived.Test.YtpigpikhjlmdoaaGreatB191
import Derived.Test.YtpigpikhjlmdoaaGreatM20
import Derived.Test.YtpigpikhjlmdoaaGreatHl
namespace Go.Proofs.YtpigpikhjlmdoaaGreat
open Go.Hp
variable {G : World} {U U' : UH} {M : MH}

/-- The same entries in another order, after stores. -/
theorem pfsn {α : Type} {a b : List α} (h : ∀ f : α → Nat, (a.map f).sum = (b.map f).sum := by intro f; simp only [List.set_cons_zero, List.set_cons_succ, TInt, TIs, TF, TR, TM, zeroQV, zeroIV0, QV.v, List.map_append, List.map_cons, List.sum_append, List.sum_cons, List.flatten_cons, List.flatten_append, List.flatten_nil, List.map_nil, List.sum_nil, List.nil_append, List.append_nil]; omega) : a.Perm b := pf h

theorem z12Rational_ct {r c cc s : Nat} {p : Option Addr} {vs : List Value} {f : Nat → Int} (rw1 : RowAt U [] 2 p (r * c) vs) (el : El (Xw s) U vs f) (hs : s ≤ 1000) (hrc : r * c ≤ 1000000) :
    Ct Tryz.prog 83 [.agg #[.int .i64 (r : Int), .int .i64 (c : Int), .slice p (r * c) cc]] G U M fun v U' D => Vm Vq r c U' v (fun i j => ((f (i * c + j) : Int) : Rat)) ∧ D = [] := by
  refine ct_setm ?_
  have hfl : ∀ i, fl c (fun i j => ((f (i * c + j) : Int) : Rat)) i = ((f i : Int) : Rat) := fun i => by show ((f (i / c * c + i % c) : Int) : Rat) = _; rw [Nat.mul_comm, Nat.div_add_mod]
  refine ct_of_st Tryz.func83 rfl rfl rfl rfl ?_
  repeat (first | refine run_S ?_ | refine w_box (fun _ => ?_) | refine w_al (fun _ => ?_))
  rename_i b1 b2 b3
  generalize hN : r * c = N at *
  try refine st_anti (M' := (b3, .var (.agg #[.int .i64 (r : Int), .int .i64 (c : Int), .slice none 0 0]), TM) :: (b2, .var (.agg #[.int .i64 0, .int .i64 0, .slice none 0 0]), TM) :: (b1, .var (.agg #[.int .i64 (r : Int), .int .i64 (c : Int), .slice p N cc]), 63) :: (([]) ++ M)) (ULe.refl _) sbk ?_
  refine st_loop (fun z E U' M' => ∃ (i : Nat) (Q : Option Addr) (C : Nat) (us : List Value) (D : MH), i ≤ N ∧ RowO TR 4 D Q i C us ∧ El Vq U' us (fl c (fun i j => ((f (i * c + j) : Int) : Rat))) ∧ E = [(4, .int .i64 (i : Int)), (3, .pointer (some ⟨b3, 0, none⟩)), (2, .pointer (some ⟨b2, 0, none⟩)), (1, .pointer (some ⟨b1, 0, none⟩))] ∧ ULe U U' ∧ M' = (b3, .var (.agg #[.int .i64 (r : Int), .int .i64 (c : Int), .slice Q i C]), TM) :: (b2, .var (.agg #[.int .i64 0, .int .i64 0, .slice none 0 0]), TM) :: (b1, .var (.agg #[.int .i64 (r : Int), .int .i64 (c : Int), .slice p N cc]), 63) :: (D ++ M) ∧ z = N - i) (n0 := N - 0) (E0 := [(4, .int .i64 ((0 : Nat) : Int)), (3, .pointer (some ⟨b3, 0, none⟩)), (2, .pointer (some ⟨b2, 0, none⟩)), (1, .pointer (some ⟨b1, 0, none⟩))]) ⟨rfl, rfl, rfl, rfl, trivial⟩ ⟨0, none, 0, [], [], by omega, RowO.nil, El.nil, rfl, uc, rfl, rfl⟩ ?_
  rintro z E U1 M' ⟨i, Q, C, us, D, hi, hrow, hel, rfl, hU1, rfl, rfl⟩
  try refine run_s ?_
  refine st_dec rfl (fun h => ?_) (fun h => ?_)
  · have hin : i < N := by omega
    obtain ⟨v1, hv1⟩ := rw1.at hin
    obtain ⟨x1, rfl, hx1, hn1⟩ := el _ _ hv1
    try refine run_s ?_
    refine st_drawM [9, 10, 11] [0, 1, 2, 3, 4, 5, 6, 7, 8, 9, 10, 11] sym (by kernel_rfl) ?_
    try refine run_s ?_
    refine w_addr (j := i) hin (rw1.get _ _ hv1).1 ?_
    refine sl_y (yl_loadRs sym rfl rfl rfl rfl rfl (rw1.up uc (List.nil_sublist _)) hv1) rfl rfl rfl rfl ?_
    try refine run_s ?_
    refine sl_call rfl rfl rfl rfl rfl rfl (fun _ => rqWhole_ct (hx1.up uc (List.nil_sublist _)) (by omega)) ?_
    rintro v Uh2 D hU ⟨xh2, rfl, h2, rfl⟩
    repeat (first | refine run_S ?_ | refine w_box (fun _ => ?_) | refine w_al (fun _ => ?_))
    refine w_push hrow (X := (b3, .var (.agg #[.int .i64 (r : Int), .int .i64 (c : Int), .slice Q i C]), TM) :: (b2, .var (.agg #[.int .i64 0, .int .i64 0, .slice none 0 0]), TM) :: (b1, .var (.agg #[.int .i64 (r : Int), .int .i64 (c : Int), .slice p N cc]), 63) :: M) pfsn (fun b P2 C2 D2 hr2 => ?_)
    refine sl_perm (M' := (b3, .var (.agg #[.int .i64 (r : Int), .int .i64 (c : Int), .slice Q i C]), TM) :: (b2, .var (.agg #[.int .i64 0, .int .i64 0, .slice none 0 0]), TM) :: (b1, .var (.agg #[.int .i64 (r : Int), .int .i64 (c : Int), .slice p N cc]), 63) :: (D2 ++ M)) ?_ pf
    try refine run_s ?_
    refine sl_storeF 0 sym rfl rfl rfl rfl rfl rfl rfl rfl rfl rfl rfl ?_
    try refine run_s ?_
    exact sk_again (E' := [(4, .int .i64 ((i : Int) + 1)), (3, .pointer (some ⟨b3, 0, none⟩)), (2, .pointer (some ⟨b2, 0, none⟩)), (1, .pointer (some ⟨b1, 0, none⟩))]) (m := N - (i + 1)) ⟨rfl, rfl, rfl, rfl, trivial⟩ (by omega) ⟨i + 1, P2, C2, _, D2, by omega, hr2, snoc_ok hrow.len.1 (hel.up kept_q uc) ⟨xh2, rfl, by rw [hfl]; exact h2⟩, rfl, uc, rfl, rfl⟩
  · obtain rfl : N = i := by omega
    subst hN
    repeat (first | refine run_S ?_ | refine w_box (fun _ => ?_) | refine w_al (fun _ => ?_))
    exact sk_ret D sym rfl (.cons (.cell 1 rfl rfl rfl) .nil) uc sb (.inl rfl) ⟨⟨_, rfl, Q, C, us, rfl, hrow, hel⟩, uc⟩

theorem z12Det_ct {n cc : Nat} {p : Option Addr} {vs : List Value} {f : Nat → Int} (rw1 : RowAt U [] 2 p (n * n) vs) (el : El (Xw 2) U vs f) (hn : n ≤ 6) :
    Ct Tryz.prog 37 [.agg #[.int .i64 (n : Int), .int .i64 (n : Int), .slice p (n * n) cc]] G U M fun v U' D => ∃ x : IV, v = x.v ∧ x.nrm U' [] (Lr.det n fun i j => f (i * n + j)) ∧ D = [] := by
  have hnn : n * n ≤ 6 * 6 := Nat.mul_le_mul hn hn
  have hsz : ∀ i j, i < n → j < n → Szq ((f (i * n + j) : Int) : Rat) 2 := fun i j hi hj => by
    obtain ⟨v1, hv1⟩ := rw1.at (ij_lt hi hj)
    obtain ⟨x1, rfl, hx1, hn1⟩ := el _ _ hv1
    exact szq_int (hx1.sz hn1) (by decide)
  have hd6 : dsz 2 n ≤ 100000 := by
    rcases show n = 0 ∨ n = 1 ∨ n = 2 ∨ n = 3 ∨ n = 4 ∨ n = 5 ∨ n = 6 by omega with rfl | rfl | rfl | rfl | rfl | rfl | rfl <;> decide
  have e0 : (La.det n fun i j => ((f (i * n + j) : Int) : Rat)) = ((Lr.det n fun i j => f (i * n + j) : Int) : Rat) := by
    have h := Fq.hom_q.det n fun i j => f (i * n + j)
    rw [Lr.det_la] at h
    exact h.symm
  refine ct_of_st Tryz.func37 rfl rfl rfl rfl ?_
  repeat (first | refine run_S ?_ | refine w_box (fun _ => ?_) | refine w_al (fun _ => ?_))
  rename_i b1 b2
  refine sl_call rfl rfl rfl rfl rfl rfl (fun _ => z12Rational_ct (rw1.up uc (List.nil_sublist _)) (el.up kept_xw uc) (by decide) (by omega)) ?_
  rintro v1 U1 D hU1 ⟨h1, rfl⟩
  rw [List.nil_append]
  repeat (first | refine run_S ?_ | refine w_box (fun _ => ?_) | refine w_al (fun _ => ?_))
  refine sl_call rfl rfl rfl rfl rfl rfl (fun _ => ct_setg (m9Rows_co (h1.w hsz) (by decide) (by omega) (by omega) (by omega))) ?_
  rintro vh6 Uh6 D hU ⟨h6, rfl⟩
  rw [List.nil_append]
  repeat (first | refine run_S ?_ | refine w_box (fun _ => ?_) | refine w_al (fun _ => ?_))
  refine sl_call rfl rfl rfl rfl rfl rfl (fun _ => m9Det_ct (k := 2) n (h6.ls kept_r uc) hsz (by decide) (by decide) (by omega) (by omega)) ?_
  rintro v7 U7 D hU7 ⟨⟨x7, rfl, h7⟩, rfl⟩
  rw [List.nil_append]
  rw [e0] at h7
  refine w_fld ?_
  repeat (first | refine run_S ?_ | refine w_box (fun _ => ?_) | refine w_al (fun _ => ?_))
  exact sk_ret [] sym rfl (.cons (.cell 0 rfl rfl rfl) .nil) uc sb (.inl rfl) ⟨x7.num, rfl, h7.1.up uc (List.Sublist.refl _), rfl⟩
end Go.Proofs.YtpigpikhjlmdoaaGreat
