/- Texts of this seat's own, merged: each begins with its own remark. -/
import Derived.Test.YtpigpikhjlmdoaaGreatM45
import Derived.Test.YtpigpikhjlmdoaaGreatB92
import Derived.Test.YtpigpikhjlmdoaaGreatM27
import Derived.Test.YtpigpikhjlmdoaaGreatM15
import Derived.Test.YtpigpikhjlmdoaaGreatM40
import Derived.Test.YtpigpikhjlmdoaaGreatM48
/- Walks of the references of layers 11 and 13: residues lifted to fractions; determinants and characteristic polynomials. -/
namespace Go.Proofs.YtpigpikhjlmdoaaGreat
open Go.Hp
open Go.Fq (Pm Fp Prm)
variable {G : World} {U U' : UH} {M M' : MH}
theorem pfsm {α : Type} {a b : List α} (h : ∀ f : α → Nat, (a.map f).sum = (b.map f).sum := by intro f; simp only [List.set_cons_zero, List.set_cons_succ, TInt, TIs, TF, TR, TRs, TM, zeroQV, zeroIV0, QV.v, List.map_append, List.map_cons, List.sum_append, List.sum_cons, List.flatten_cons, List.flatten_append, List.flatten_nil, List.map_nil, List.sum_nil, List.nil_append, List.append_nil]; omega) : a.Perm b := pf h
theorem dsz_five {n : Nat} (h : n ≤ 5) : dsz 1 n ≤ 1000 := by
  rcases show n = 0 ∨ n = 1 ∨ n = 2 ∨ n = 3 ∨ n = 4 ∨ n = 5 by omega with rfl | rfl | rfl | rfl | rfl | rfl <;> decide
structure FL (n : Nat) (A : Nat → Nat → Rat) (s : Nat) : Prop where
  el : ∀ i j, i < n → j < n → Szq (A i j) s
  bc : ∀ m i k, m ≤ n → i < n → k < n → Szq (Lr.Bc n A m i k) s
  mm : ∀ m i k, m < n → i < n → k < n → Szq (La.mm n A (Lr.Bc n A m) i k) s
  tr : ∀ m, m < n → Szq (La.sm n fun i => La.mm n A (Lr.Bc n A m) i i) s
  cp : ∀ m, m ≤ n → Szq (Lr.cp n A m) s
theorem nm_rat : ∀ m : Nat, (Lr.nm m : Rat) = ((m : Int) : Rat)
  | 0 => rfl
  | m + 1 => by
    show (Lr.nm m : Rat) + 1 = _
    rw [nm_rat m]
    push_cast
    rfl
theorem cp_ratio (n : Nat) (A : Nat → Nat → Rat) (m : Nat) : (La.sm n fun i => La.mm n A (Lr.Bc n A m) i i) / ((-((m + 1 : Nat) : Int) : Int) : Rat) = Lr.cp n A (m + 1) := by
  have h := Lr.cp_trace n A m
  have e : (fun i => Lr.mm n A (Lr.Bc n A m) i i) = fun i => La.mm n A (Lr.Bc n A m) i i := funext fun i => Lr.sm_la n _
  rw [nm_rat, Lr.sm_la, e] at h
  obtain ⟨x, hx⟩ : ∃ x, x = La.sm n fun i => La.mm n A (Lr.Bc n A m) i i := ⟨_, rfl⟩
  rw [← hx] at h ⊢
  obtain ⟨k, hk⟩ : ∃ k : Rat, k = (((m + 1 : Nat) : Int) : Rat) := ⟨_, rfl⟩
  have hk0 : k ≠ 0 := by
    rw [hk]
    intro h0
    have := Rat.intCast_inj.1 (h0.trans (show (0 : Rat) = ((0 : Int) : Rat) from rfl))
    omega
  rw [show ((-((m + 1 : Nat) : Int) : Int) : Rat) = -k by rw [hk, Rat.intCast_neg]]
  rw [← hk] at h
  have h1 : x = (-k) * Lr.cp n A (m + 1) := by rw [Rat.neg_mul, h, Rat.neg_neg]
  have hk1 : -k ≠ 0 := fun h0 => hk0 (by rw [← Rat.neg_neg k, h0]; rfl)
  rw [h1, Rat.div_def, Rat.mul_comm (-k), Rat.mul_assoc, Rat.mul_inv_cancel _ hk1, Rat.mul_one]
theorem idm_szq (i j : Nat) : Szq (La.idm i j) 1 := by
  unfold La.idm
  split
  · exact szq_int1
  · exact szq_int0
theorem z11CharPoly_ct {n s : Nat} {va : Value} {A : Nat → Nat → Rat} (ha : Vm (Wq s) n n U va A) (hs : FL n A s) (hs1 : 1 ≤ s) (hs2 : s ≤ 1000000) (hn : n ≤ 10) :
    Ct Tryz.prog 45 [va] G U M fun v U' D => Ls Vq 4 (n + 1) U' [] v (fun t => Lr.cp n A (n - t)) ∧ D = [] := by
  have hnn : n * n ≤ 10 * 10 := Nat.mul_le_mul hn hn
  have hns : n * (s + 1) ≤ 10 * 1000001 := Nat.mul_le_mul hn (by omega)
  have hns2 : n * (2 * s + 1) ≤ 10 * 2000001 := Nat.mul_le_mul hn (by omega)
  refine Ct.setl (e := TR) ?_ kept_q
  have ha2 := ha
  obtain ⟨_, rfl, pa, ca, xa, rfl, -⟩ := ha
  refine ct_of_st Tryz.func45 rfl rfl rfl rfl ?_
  repeat (first | refine run_S ?_ | refine w_box (fun _ => ?_) | refine w_al (fun _ => ?_))
  rename_i b1
  refine sl_call rfl rfl rfl rfl rfl rfl (fun _ => m9Zeros_ct (n := n + 1) (by omega)) ?_
  rintro v2 U2 D2 hU2 ⟨⟨pc, cc, cs, rfl, hrc, ec⟩, -⟩
  refine sl_perm (M' := (b1, .var (.agg #[.int .i64 (n : Int), .int .i64 (n : Int), .slice pa (n * n) ca]), TM) :: (D2 ++ M)) ?_ pfsm
  repeat (first | refine run_S ?_ | refine w_box (fun _ => ?_) | refine w_al (fun _ => ?_))
  refine sl_call rfl rfl rfl rfl rfl rfl (fun _ => rqOf_ct (z := 1) (by decide) (by decide)) ?_
  rintro v Uh3 D hU ⟨xh3, rfl, h3, rfl⟩
  repeat (first | refine run_S ?_ | refine w_box (fun _ => ?_) | refine w_al (fun _ => ?_))
  refine w_addr (j := n) (show n < n + 1 by omega) (hrc.some (by omega)) ?_
  refine w_storeR (v := xh3.v) (X := (b1, .var (.agg #[.int .i64 (n : Int), .int .i64 (n : Int), .slice pa (n * n) ca]), TM) :: M) hrc pf (show n < n + 1 by omega) (fun D3 hr3 => ?_)
  refine sl_perm (M' := (b1, .var (.agg #[.int .i64 (n : Int), .int .i64 (n : Int), .slice pa (n * n) ca]), TM) :: (D3 ++ M)) ?_ pf
  have ec3 : El Vq Uh3 (cs.set n xh3.v) (fun t => if n ≤ t then Lr.cp n A (n - t) else 0) := set_ok (fun t x ht hne => by
    have h5 := List.getElem?_eq_some_iff.1 ht
    have h6 := h5.1
    have h7 := hrc.len.1
    simp only [if_neg (show ¬ n ≤ t by omega)]
    exact kept_q _ _ _ _ uc (ec t x ht)) (by
    simp only [if_pos (Nat.le_refl n), Nat.sub_self, Lr.cp_zero]
    exact ⟨xh3, rfl, h3⟩)
  generalize cs.set n xh3.v = cs3 at hr3 ec3
  clear hrc ec
  repeat (first | refine run_S ?_ | refine w_box (fun _ => ?_) | refine w_al (fun _ => ?_))
  refine sl_call rfl rfl rfl rfl rfl rfl (fun _ => m9Identity_ct (n := n) (by omega)) ?_
  rintro v4 U4 D4 hU4 ⟨⟨_, rfl, p4, c4, us4, rfl, h4⟩, rfl⟩
  try rw [List.nil_append]
  repeat (first | refine run_S ?_ | refine w_box (fun _ => ?_) | refine w_al (fun _ => ?_))
  rename_i b5
  try refine st_anti (M' := (b5, .var (.agg #[.int .i64 (n : Int), .int .i64 (n : Int), .slice p4 (n * n) c4]), TM) :: (b1, .var (.agg #[.int .i64 (n : Int), .int .i64 (n : Int), .slice pa (n * n) ca]), TM) :: (D3 ++ M)) (ULe.refl _) sbk ?_
  refine st_loop (fun z E U' M' => ∃ (k : Nat) (cs : List Value) (D : MH) (pm : Option Addr) (cm : Nat), 1 ≤ k ∧ k ≤ n + 1 ∧ RowO TR 4 D pc (n + 1) cc cs ∧ El Vq U' cs (fun t => if n + 1 - k ≤ t then Lr.cp n A (n - t) else 0) ∧ Vm Vq n n U' (.agg #[.int .i64 (n : Int), .int .i64 (n : Int), .slice pm (n * n) cm]) (Lr.Bc n A (k - 1)) ∧ E = [(6, .int .i64 (k : Int)), (5, .pointer (some ⟨b5, 0, none⟩)), (4, .slice pc (n + 1) cc), (3, .int .i64 (n : Int)), (1, .pointer (some ⟨b1, 0, none⟩))] ∧ ULe U4 U' ∧ M' = (b5, .var (.agg #[.int .i64 (n : Int), .int .i64 (n : Int), .slice pm (n * n) cm]), TM) :: (b1, .var (.agg #[.int .i64 (n : Int), .int .i64 (n : Int), .slice pa (n * n) ca]), TM) :: (D ++ M) ∧ z = n + 1 - k) (n0 := n + 1 - 1) (E0 := [(6, .int .i64 ((1 : Nat) : Int)), (5, .pointer (some ⟨b5, 0, none⟩)), (4, .slice pc (n + 1) cc), (3, .int .i64 (n : Int)), (1, .pointer (some ⟨b1, 0, none⟩))]) ⟨rfl, rfl, rfl, rfl, rfl, trivial⟩ ⟨1, cs3, D3, p4, c4, Nat.le_refl 1, by omega, hr3, ec3.up kept_q uc, Vm.congr ⟨_, rfl, p4, c4, us4, rfl, h4⟩ (fun i j hi hj => (Lr.Bc_zero hi hj).symm), rfl, uc, rfl, rfl⟩ ?_
  clear hr3 ec3 h4
  rintro z E U5 M' ⟨k, cs, D, pm, cm, hk1, hkn, hrc, ec, hm, rfl, hU5, rfl, rfl⟩
  try refine run_s ?_
  refine st_dec rfl (fun h => ?_) (fun h => ?_)
  · have hkn2 : k ≤ n := by omega
    obtain ⟨m, rfl⟩ : ∃ m, k = m + 1 := ⟨k - 1, by omega⟩
    rw [Nat.add_sub_cancel] at hm
    repeat (first | refine run_S ?_ | refine w_box (fun _ => ?_) | refine w_al (fun _ => ?_))
    refine sl_call rfl rfl rfl rfl rfl rfl (fun _ => m9Mul_ct (b := s) (kept_m kept_w _ _ _ _ uc ha2) ((kept_m kept_q _ _ _ _ uc hm).w fun i j hi hj => hs.bc m i j (by omega) hi hj) hs1 (by omega) (by omega) (by omega) (by omega) (by omega)) ?_
    rintro v6 U6 D6 hU6 ⟨⟨_, rfl, p6, c6, us6, rfl, h6⟩, rfl⟩
    have h6m : Vm Vq n n U6 (.agg #[.int .i64 (n : Int), .int .i64 (n : Int), .slice p6 (n * n) c6]) (La.mm n A (Lr.Bc n A m)) := ⟨_, rfl, p6, c6, us6, rfl, h6⟩
    rw [List.nil_append]
    repeat (first | refine run_S ?_ | refine w_box (fun _ => ?_) | refine w_al (fun _ => ?_))
    rename_i b7
    refine sl_call rfl rfl rfl rfl rfl rfl (fun _ => m9Trace_ct (b := s) (h6m.w fun i j hi hj => hs.mm m i j (by omega) hi hj) hs1 (by omega) (by omega) (by omega)) ?_
    rintro v7 U7 D7 hU7 ⟨x7, rfl, h7, rfl⟩
    rw [List.nil_append]
    have hw : IntKind.i64.wrap (0 - ((m + 1 : Nat) : Int)) = -((m + 1 : Nat) : Int) := by
      rw [show IntKind.i64.wrap (0 - ((m + 1 : Nat) : Int)) = 0 - ((m + 1 : Nat) : Int) from IntWalk.i64_in _ (by omega)]
      omega
    have e30 : (n : Int) - ((m + 1 : Nat) : Int) = ((n - (m + 1) : Nat) : Int) := by omega
    repeat (first | refine run_S ?_ | refine w_box (fun _ => ?_) | refine w_al (fun _ => ?_))
    rw [hw, e30]
    refine sl_call rfl rfl rfl rfl rfl rfl (fun _ => rqOf_ct (z := -((m + 1 : Nat) : Int)) (by omega) (by omega)) ?_
    rintro v Uh8 D hU ⟨xh8, rfl, h8, rfl⟩
    repeat (first | refine run_S ?_ | refine w_box (fun _ => ?_) | refine w_al (fun _ => ?_))
    refine sl_call rfl rfl rfl rfl rfl rfl (fun _ => rqRatio_ct (h7.rep.up uc (List.nil_sublist _)) (h7.le (hs.tr m (by omega)) (by omega)) (h8.rep.up uc (List.nil_sublist _)) (h8.le (szq_small (by omega)) (by omega))) ?_
    rintro v Uh9 D hU ⟨xh9, rfl, h9, rfl⟩
    repeat (first | refine run_S ?_ | refine w_box (fun _ => ?_) | refine w_al (fun _ => ?_))
    rw [cp_ratio] at h9
    refine w_addr (j := n - (m + 1)) (show n - (m + 1) < n + 1 by omega) (hrc.some (by omega)) ?_
    refine w_storeR (v := xh9.v) (X := (b7, .var (.agg #[.int .i64 (n : Int), .int .i64 (n : Int), .slice p6 (n * n) c6]), TM) :: (b5, .var (.agg #[.int .i64 (n : Int), .int .i64 (n : Int), .slice pm (n * n) cm]), TM) :: (b1, .var (.agg #[.int .i64 (n : Int), .int .i64 (n : Int), .slice pa (n * n) ca]), TM) :: M) hrc pfsm (show n - (m + 1) < n + 1 by omega) (fun D3 hr3 => ?_)
    refine sl_perm (M' := (b7, .var (.agg #[.int .i64 (n : Int), .int .i64 (n : Int), .slice p6 (n * n) c6]), TM) :: (b5, .var (.agg #[.int .i64 (n : Int), .int .i64 (n : Int), .slice pm (n * n) cm]), TM) :: (b1, .var (.agg #[.int .i64 (n : Int), .int .i64 (n : Int), .slice pa (n * n) ca]), TM) :: (D3 ++ M)) ?_ pf
    have hv9 : (cs.set (n - (m + 1)) xh9.v)[n - (m + 1)]? = some xh9.v := List.getElem?_set_self (by have := hrc.len.1; omega)
    have ec3 : El Vq Uh9 (cs.set (n - (m + 1)) xh9.v) (fun t => if n + 1 - (m + 1 + 1) ≤ t then Lr.cp n A (n - t) else 0) := set_ok (fun t x ht hne => by
      have h5 := kept_q _ _ _ _ (show ULe U5 Uh9 from uc) (ec t x ht)
      simp only at h5 ⊢
      by_cases e : n + 1 - (m + 1) ≤ t
      · rw [if_pos e] at h5; rw [if_pos (by omega)]; exact h5
      · rw [if_neg e] at h5; rw [if_neg (by omega)]; exact h5) (by
      simp only [if_pos (show n + 1 - (m + 1 + 1) ≤ n - (m + 1) by omega)]
      rw [show n - (n - (m + 1)) = m + 1 by omega]
      exact ⟨xh9, rfl, h9⟩)
    generalize cs.set (n - (m + 1)) xh9.v = cs3 at hr3 ec3 hv9
    repeat (first | refine run_S ?_ | refine w_box (fun _ => ?_) | refine w_al (fun _ => ?_))
    refine st_drawM [9, 10] [0, 1, 2, 3, 4, 5, 6, 7, 8, 9, 10] sym (by kernel_rfl) ?_
    repeat (first | refine run_S ?_ | refine w_box (fun _ => ?_) | refine w_al (fun _ => ?_))
    rw [e30]
    have rC := hr3.at (U := Uh9) (M := (b7, .var (.agg #[.int .i64 (n : Int), .int .i64 (n : Int), .slice p6 (n * n) c6]), TM) :: (b5, .var (.agg #[.int .i64 (n : Int), .int .i64 (n : Int), .slice pm (n * n) cm]), TM) :: (b1, .var (.agg #[.int .i64 (n : Int), .int .i64 (n : Int), .slice pa (n * n) ca]), TM) :: (D3 ++ M)) sb
    refine sl_y (yl_index sym rfl rfl rfl rfl rfl rfl (rC.lt hv9) (rC.get _ _ hv9).1) rfl rfl rfl rfl ?_; refine sl_y (yl_loadRs sym rfl rfl rfl rfl rfl rC hv9) rfl rfl rfl rfl ?_
    repeat (first | refine run_S ?_ | refine w_box (fun _ => ?_) | refine w_al (fun _ => ?_))
    refine sl_call rfl rfl rfl rfl rfl rfl (fun _ => m9Identity_ct (n := n) (by omega)) ?_
    rintro v10 U10 D10 hU10 ⟨h10, rfl⟩
    try rw [List.nil_append]
    repeat (first | refine run_S ?_ | refine w_box (fun _ => ?_) | refine w_al (fun _ => ?_))
    refine sl_call rfl rfl rfl rfl rfl rfl (fun _ => m9Add_ct (b := s) (xc := xh9) (q := Lr.cp n A (m + 1)) ((kept_m kept_q _ _ _ _ uc h6m).w fun i j hi hj => hs.mm m i j (by omega) hi hj) (h9.rep.up uc (List.nil_sublist _)) (h9.le (hs.cp (m + 1) (by omega)) (Nat.le_refl _)) (h10.w fun i j _ _ => (idm_szq i j).mono hs1) hs1 (by omega) (by omega) (by omega)) ?_
    rintro v11 U11 D11 hU11 ⟨⟨_, rfl, p11, c11, us11, rfl, h11⟩, rfl⟩
    rw [List.nil_append]
    repeat (first | refine run_S ?_ | refine w_box (fun _ => ?_) | refine w_al (fun _ => ?_))
    refine sk_anti (M' := (b5, .var (.agg #[.int .i64 (n : Int), .int .i64 (n : Int), .slice p11 (n * n) c11]), TM) :: (b1, .var (.agg #[.int .i64 (n : Int), .int .i64 (n : Int), .slice pa (n * n) ca]), TM) :: (D3 ++ M)) (ULe.refl _) sbk ?_
    exact sk_again (E' := [(6, .int .i64 ((m + 1 + 1 : Nat) : Int)), (5, .pointer (some ⟨b5, 0, none⟩)), (4, .slice pc (n + 1) cc), (3, .int .i64 (n : Int)), (1, .pointer (some ⟨b1, 0, none⟩))]) (m := n + 1 - (m + 1 + 1)) ⟨rfl, rfl, rfl, rfl, rfl, trivial⟩ (by omega) ⟨m + 1 + 1, cs3, D3, p11, c11, by omega, by omega, hr3, ec3.up kept_q uc, Vm.congr ⟨_, rfl, p11, c11, us11, rfl, h11⟩ (fun i j hi hj => by
      show _ = Lr.Bc n A (m + 1) i j
      rw [Lr.Bc_succ hi hj]
      show _ = Lr.sm n _ + _
      rw [Lr.sm_la]
      rfl), rfl, uc, rfl, rfl⟩
  · obtain rfl : k = n + 1 := by omega
    try refine run_s ?_
    exact sk_ret D sym rfl (.cons (.tmp rfl) .nil) uc sb (.inl rfl) ⟨⟨pc, cc, cs, rfl, hrc, ec.congr hrc.len.1 fun t _ => by rw [if_pos (by omega)]⟩, uc⟩
end Go.Proofs.YtpigpikhjlmdoaaGreat

/- Sizes of what the method of Faddeev and LeVerrier makes of a matrix with a common denominator. -/
namespace Go.Proofs.YtpigpikhjlmdoaaGreat
open Go.Hp
open Go.Fq (Pm Fp Prm)
theorem pw_rat (D : Int) : ∀ m : Nat, Lr.pw (D : Rat) m = ((D ^ m : Int) : Rat)
  | 0 => by rw [Int.pow_zero]; rfl
  | m + 1 => by
    show (D : Rat) * Lr.pw (D : Rat) m = _
    rw [pw_rat D m, ← Rat.intCast_mul, Int.pow_succ, Int.mul_comm]
theorem szq_quo {q : Rat} {D z : Int} {s : Nat} (hD : D ≠ 0) (h : (D : Rat) * q = (z : Rat)) (hz : Sz z s) (hd : Sz D s) (hs : 1 ≤ s) : Szq q s := by
  have hD0 : (D : Rat) ≠ 0 := fun h0 => hD (Rat.intCast_inj.1 (h0.trans (show (0 : Rat) = ((0 : Int) : Rat) from rfl)))
  have e : q = Rat.divInt z D := by
    rw [Rat.divInt_eq_div, ← h, Rat.mul_comm, Rat.div_def, Rat.mul_assoc, Rat.mul_inv_cancel _ hD0, Rat.mul_one]
  rw [e]
  exact szq_div hz hd hs
theorem fl_of {n β s : Nat} {A : Nat → Nat → Rat} {D : Int} {Z : Nat → Nat → Int} (hn : n ≤ 5) (hD : D ≠ 0) (hZ : ∀ i j, i < n → j < n → (D : Rat) * A i j = (Z i j : Rat)) (hβ : ∀ i j, i < n → j < n → (Z i j).natAbs ≤ β)
    (hs : 1 ≤ s) (h1 : (30 * β) ^ 5 < 4294967296 ^ s) (h2 : D.natAbs ^ 5 < 4294967296 ^ s) (hel : ∀ i j, i < n → j < n → Szq (A i j) s) (hb : 1 ≤ β) : FL n A (2 * s + 2) := by
  have hpw : ∀ m, m ≤ n → Sz (D ^ m) s := fun m hm => by
    show (D ^ m).natAbs < _
    rw [Int.natAbs_pow]
    exact Nat.lt_of_le_of_lt (Nat.pow_le_pow_right (by omega) (by omega)) h2
  have hbd : ∀ m, m ≤ n → (30 * β) ^ m < 4294967296 ^ s := fun m hm => Nat.lt_of_le_of_lt (Nat.pow_le_pow_right (by omega) (by omega)) h1
  have hDm : ∀ m : Nat, D ^ m ≠ 0 := fun m => Int.pow_ne_zero hD
  have sB : ∀ m i k, m ≤ n → i < n → k < n → Szq (Lr.Bc n A m i k) s := fun m i k hm hi hk => by
    refine szq_quo (D := D ^ m) (z := Lr.Bc n Z m i k) (hDm m) ?_ (Nat.lt_of_le_of_lt ((Lr.Bc_abs hn hβ m).1 i k hi hk) (hbd m hm)) (hpw m hm) hs
    rw [← pw_rat, ← Lr.Bc_scl (D : Rat) (A := A) (B := fun i j => ((Z i j : Int) : Rat)) (fun i j hi hj => (hZ i j hi hj).symm)]
    exact (Lr.Bc_map Fq.hom_q n Z m i k).symm
  have sC : ∀ m, m ≤ n → Szq (Lr.cp n A m) s := fun m hm => by
    refine szq_quo (D := D ^ m) (z := Lr.cp n Z m) (hDm m) ?_ (Nat.lt_of_le_of_lt (Lr.Bc_abs hn hβ m).2 (hbd m hm)) (hpw m hm) hs
    rw [← pw_rat, ← Lr.cp_scl (D : Rat) (A := A) (B := fun i j => ((Z i j : Int) : Rat)) (fun i j hi hj => (hZ i j hi hj).symm)]
    exact (Lr.cp_map Fq.hom_q n Z m).symm
  refine ⟨fun i j hi hj => (hel i j hi hj).mono (by omega), fun m i k hm hi hk => (sB m i k hm hi hk).mono (by omega), fun m i k hm hi hk => ?_, fun m hm => ?_, fun m hm => (sC m hm).mono (by omega)⟩
  · have h := Lr.Bc_succ (A := A) hi hk m
    have e : Lr.mm n A (Lr.Bc n A m) i k = La.mm n A (Lr.Bc n A m) i k := Lr.sm_la n _
    have h3 : La.mm n A (Lr.Bc n A m) i k = Lr.Bc n A (m + 1) i k - Lr.cp n A (m + 1) * Lr.idm i k := by rw [h, e, Rat.add_sub_cancel]
    have h4 : Szq (Lr.cp n A (m + 1) * Lr.idm i k) s := by
      unfold Lr.idm
      split
      · rw [show Lr.cp n A (m + 1) * 1 = Lr.cp n A (m + 1) from Rat.mul_one _]; exact sC (m + 1) (by omega)
      · rw [show Lr.cp n A (m + 1) * 0 = 0 from Rat.mul_zero _]; exact szq_int0.mono hs
    rw [h3]
    exact ((sB (m + 1) i k (by omega) hi hk).sub h4).mono (by omega)
  · have h := Lr.cp_trace n A m
    have e : (fun i => Lr.mm n A (Lr.Bc n A m) i i) = fun i => La.mm n A (Lr.Bc n A m) i i := funext fun i => Lr.sm_la n _
    rw [nm_rat, Lr.sm_la, e] at h
    have h3 : (La.sm n fun i => La.mm n A (Lr.Bc n A m) i i) = -((((m + 1 : Nat) : Int) : Rat) * Lr.cp n A (m + 1)) := by rw [h, Rat.neg_neg]
    rw [h3]
    exact (((szq_small (show ((m + 1 : Nat) : Int).natAbs < 4294967296 by omega)).mul (sC (m + 1) (by omega))).neg).mono (by omega)
end Go.Proofs.YtpigpikhjlmdoaaGreat
