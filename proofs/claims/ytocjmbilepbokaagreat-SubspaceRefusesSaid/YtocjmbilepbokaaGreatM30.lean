/- Texts of this seat's own, merged: each begins with its own remark. -/
import Derived.Test.YtocjmbilepbokaaGreatB118
import Derived.Test.YtocjmbilepbokaaGreatM26
import Derived.Test.YtocjmbilepbokaaGreatM36
import Derived.Test.YtocjmbilepbokaaGreatM23
import Derived.Test.YtocjmbilepbokaaGreatM29
import Derived.Test.YtocjmbilepbokaaGreatHk
import Derived.Test.YtocjmbilepbokaaGreatM37
/- Walks of subspace: Check, pivots, columns without a pivot. -/
namespace Go.Proofs.YtocjmbilepbokaaGreat
open Go.Hp
variable {G : World} {U U' : UH} {M M' : MH}

abbrev TS : Nat := 26

/-- The same entries in another order; some have just been written. -/
theorem pms {α : Type} {a b : List α} (h : ∀ f : α → Nat, (a.map f).sum = (b.map f).sum := by intro f; simp only [List.set_cons_zero, List.set_cons_succ, TS, TR, TRs, TM, TInt, zeroQV, zeroIV0, QV.v, List.map_append, List.map_cons, List.sum_append, List.sum_cons, List.flatten_cons, List.flatten_append, List.flatten_nil, List.map_nil, List.sum_nil, List.nil_append, List.append_nil]; omega) : a.Perm b := by
  letI : DecidableEq α := fun a b => Classical.propDecidable (a = b)
  rw [List.perm_iff_count]
  intro x
  rw [sum_count', sum_count']
  exact h _

/-- A subspace of Q^n with a basis of r rows. -/
def Sv (ok : UH → Value → Rat → Prop) (r n : Nat) (U : UH) (v : Value) (B : Nat → Nat → Rat) : Prop := ∃ a, v = .agg #[.int .i64 (n : Int), .int .i64 (r : Int), .int .i64 (n : Int), a] ∧ Ls ok 4 (r * n) U [] a (fl n B)
theorem kept_s {ok : UH → Value → Rat → Prop} (hok : Kept ok) {r n : Nat} : Kept (Sv ok r n) := fun _ _ _ _ hU ⟨a, h1, h2⟩ => ⟨a, h1, h2.up hok hU (List.Sublist.refl _)⟩
theorem Sv.w {r n b : Nat} {v : Value} {A : Nat → Nat → Rat} (h : Sv Vq r n U v A) (hz : ∀ i j, i < r → j < n → Szq (A i j) b) : Sv (Wq b) r n U v A := by
  obtain ⟨a, h1, h2⟩ := h
  exact ⟨a, h1, h2.toW fun k hk => hz _ _ (fl_lt hk).1 (fl_lt hk).2⟩
theorem Sv.mono {r n b b' : Nat} {v : Value} {A : Nat → Nat → Rat} (h : Sv (Wq b) r n U v A) (hb : b ≤ b') : Sv (Wq b') r n U v A := by
  obtain ⟨a, h1, h2⟩ := h
  exact ⟨a, h1, h2.mono hb⟩
theorem Sv.sz {r n b : Nat} {v : Value} {A : Nat → Nat → Rat} (h : Sv (Wq b) r n U v A) (hb : 1 ≤ b) {i j : Nat} (hi : i < r) (hj : j < n) : Szq (A i j) b := by
  obtain ⟨a, h1, h2⟩ := h
  have := h2.sz hb (ij_lt hi hj)
  rwa [fl_at hj] at this
theorem Sv.vm {ok : UH → Value → Rat → Prop} {r n : Nat} {a : Value} {A : Nat → Nat → Rat} (h : Sv ok r n U (.agg #[.int .i64 (n : Int), .int .i64 (r : Int), .int .i64 (n : Int), a]) A) : Vm ok r n U (.agg #[.int .i64 (r : Int), .int .i64 (n : Int), a]) A := by
  obtain ⟨a', h1, h2⟩ := h
  simp only [Value.agg.injEq, Array.mk.injEq, List.cons.injEq, and_true, true_and] at h1
  subst h1
  exact ⟨_, rfl, h2⟩
theorem Vm.sv {ok : UH → Value → Rat → Prop} {r n : Nat} {a : Value} {A : Nat → Nat → Rat} (h : Vm ok r n U (.agg #[.int .i64 (r : Int), .int .i64 (n : Int), a]) A) : Sv ok r n U (.agg #[.int .i64 (n : Int), .int .i64 (r : Int), .int .i64 (n : Int), a]) A := by
  obtain ⟨a', h1, h2⟩ := h
  simp only [Value.agg.injEq, Array.mk.injEq, List.cons.injEq, and_true, true_and] at h1
  subst h1
  exact ⟨_, rfl, h2⟩

/-- Growth in six steps. -/
theorem gro_six {b : Nat} (hb : b ≤ 40000) : La.gro b 6 ≤ 164000000 := by
  have h1 := La.gro_bd b 6
  have h2 : (4 : Nat) ^ 6 * (b + 2) = 4096 * (b + 2) := rfl
  omega

theorem sign_zero {q : Rat} : q.num.sign = 0 ↔ q = 0 := by
  rw [Int.sign_eq_zero_iff_zero, Rat.num_eq_zero]
theorem sub_zero_iff {p q : Rat} : p - q = 0 ↔ p = q := by
  constructor <;> intro h <;> grind

/-- Check of what may be a subspace: the elements are known. -/
theorem sCheck_ct {r n b cc : Nat} {d : Int} {p : Option Addr} {B : Nat → Nat → Rat} (hm : Vm (Wq b) r n U (.agg #[.int .i64 (r : Int), .int .i64 (n : Int), .slice p (r * n) cc]) B) (hb1 : 1 ≤ b) (hb : b ≤ 40000) (hr : r ≤ 12) (hn : n ≤ 6) :
    Ct Tryz.prog 31 [.agg #[.int .i64 d, .int .i64 (r : Int), .int .i64 (n : Int), .slice p (r * n) cc]] G U M fun v _ D => D = [] ∧ ∃ e : Int, v = .int .i64 e ∧ (e = 0 ∨ e = 3) ∧ (e = 0 ↔ d = (n : Int) ∧ ∃ q, La.Ech r n B q) := by
  have hrn : r * n ≤ 12 * 6 := Nat.mul_le_mul hr hn
  have hg := gro_six hb
  obtain ⟨_, hv, p', cc', bs, rfl, hcc, rb, eb⟩ := id hm
  simp only [Value.agg.injEq, Array.mk.injEq, List.cons.injEq, and_true, true_and, Value.slice.injEq] at hv
  obtain ⟨rfl, rfl⟩ := hv
  refine ct_of_st Tryz.func31 rfl rfl rfl rfl ?_
  repeat (first | refine run_S ?_ | refine w_box (fun _ => ?_) | refine w_al (fun _ => ?_))
  rename_i b1
  refine sl_call rfl rfl rfl rfl rfl rfl (fun _ => mEchelon_ctg (w0 := 6) (kept_m kept_w _ _ _ _ uc hm) hb1 (.inr hn) (by omega) (by omega) (by omega) (by omega)) ?_
  rintro v1 U1 D1 hU1 ⟨rr, R, q, vR, vp, rfl, hR, hp, rfl, hE, hz⟩
  try rw [List.nil_append]
  obtain ⟨_, rfl, pR, cR, rs, rfl, hcR, rR, eR⟩ := id hR
  obtain ⟨pp, cp, ps, rfl, -⟩ := id hp
  have hrr : rr ≤ 6 := Nat.le_trans hE.ech.le_n hn
  have hrrn : rr * n ≤ 6 * 6 := Nat.mul_le_mul hrr hn
  repeat (first | refine run_S ?_ | refine w_box (fun _ => ?_) | refine w_al (fun _ => ?_))
  rename_i b3
  refine sl_gdec rfl rfl (fun h => absurd rfl h) (fun _ => ?_)
  repeat (first | refine run_S ?_ | refine w_box (fun _ => ?_) | refine w_al (fun _ => ?_))
  refine sl_gdec rfl rfl (fun h => ?_) (fun h1 => ?_)
  · repeat (first | refine run_S ?_ | refine w_box (fun _ => ?_) | refine w_al (fun _ => ?_))
    exact sk_ret [] sym rfl (.cons (.tmp rfl) .nil) uc sb (.inl rfl) ⟨rfl, 3, rfl, .inr rfl, (fun h => by cases h), fun h2 => absurd h2.1.symm h⟩
  have hd : d = (n : Int) := by omega
  repeat (first | refine run_S ?_ | refine w_box (fun _ => ?_) | refine w_al (fun _ => ?_))
  refine st_ne rfl (fun h => ?_) (fun h2 => ?_)
  · repeat (first | refine run_S ?_ | refine w_box (fun _ => ?_) | refine w_al (fun _ => ?_))
    exact sk_ret [] sym rfl (.cons (.tmp rfl) .nil) uc sb (.inl rfl) ⟨rfl, 3, rfl, .inr rfl, (fun h => by cases h), fun h2 => by
      obtain ⟨-, q', hq⟩ := h2
      have := (hE.ech.unique hq hE.same).1
      omega⟩
  obtain rfl : r = rr := by omega
  repeat (first | refine run_S ?_ | refine w_box (fun _ => ?_) | refine w_al (fun _ => ?_))
  try refine st_anti (M' := (b1, .var (.agg #[.int .i64 d, .int .i64 (r : Int), .int .i64 (n : Int), .slice p (r * n) cc]), TS) :: M) (ULe.refl _) sbk ?_
  refine st_loop (fun z E U' M' => ∃ (i : Nat), i ≤ r * n ∧ (∀ k, k < i → fl n R k = fl n B k) ∧ E = [(36, .int .i64 (i : Int)), (35, .int .i64 ((r * n : Nat) : Int)), (34, .slice pR (r * n) cR), (1, .pointer (some ⟨b1, 0, none⟩))] ∧ ULe U1 U' ∧ M' = (b1, .var (.agg #[.int .i64 d, .int .i64 (r : Int), .int .i64 (n : Int), .slice p (r * n) cc]), TS) :: M ∧ z = r * n - i) (n0 := r * n - 0) (E0 := [(36, .int .i64 ((0 : Nat) : Int)), (35, .int .i64 ((r * n : Nat) : Int)), (34, .slice pR (r * n) cR), (1, .pointer (some ⟨b1, 0, none⟩))]) ⟨rfl, rfl, rfl, rfl, trivial⟩ ⟨0, by omega, fun k hk => absurd hk (Nat.not_lt_zero k), rfl, uc, rfl, rfl⟩ ?_
  rintro z E U2 M' ⟨i, hi, hk, rfl, hU2, rfl, rfl⟩
  try refine run_s ?_
  refine st_dec rfl (fun h => ?_) (fun h => ?_)
  · have hin : i < r * n := by omega
    have rR2 := rR.up (U' := U2) (M' := (b1, .var (.agg #[.int .i64 d, .int .i64 (r : Int), .int .i64 (n : Int), .slice p (r * n) cc]), TS) :: M) uc (List.nil_sublist _)
    obtain ⟨v1, hv1⟩ := rR2.at hin
    obtain ⟨x1, rfl, hx1⟩ := eR _ _ hv1
    repeat (first | refine run_S ?_ | refine w_box (fun _ => ?_) | refine w_al (fun _ => ?_))
    refine sl_y (yl_index sym rfl rfl rfl rfl rfl rfl (rR2.lt hv1) (rR2.get _ _ hv1).1) rfl rfl rfl rfl ?_; refine sl_y (yl_loadRs sym rfl rfl rfl rfl rfl rR2 hv1) rfl rfl rfl rfl ?_
    repeat (first | refine run_S ?_ | refine w_box (fun _ => ?_) | refine w_al (fun _ => ?_))
    rename_i b7
    refine st_draw [0, 1, 2, 3, 4, 5, 6, 7, 8] sym (by kernel_rfl) ?_
    have rb2 := rb.up (U' := U2) (M' := (b7, .var x1.v, TR) :: (b1, .var (.agg #[.int .i64 d, .int .i64 (r : Int), .int .i64 (n : Int), .slice p (r * n) cc]), TS) :: M) uc (List.nil_sublist _)
    obtain ⟨v2, hv2⟩ := rb2.at hin
    obtain ⟨x2, rfl, hx2, hl2⟩ := eb _ _ hv2
    repeat (first | refine run_S ?_ | refine w_box (fun _ => ?_) | refine w_al (fun _ => ?_))
    refine sl_y (yl_index sym rfl rfl rfl rfl rfl rfl (rb2.lt hv2) (rb2.get _ _ hv2).1) rfl rfl rfl rfl ?_; refine sl_y (yl_loadRs sym rfl rfl rfl rfl rfl rb2 hv2) rfl rfl rfl rfl ?_
    repeat (first | refine run_S ?_ | refine w_box (fun _ => ?_) | refine w_al (fun _ => ?_))
    refine sl_call rfl rfl rfl rfl rfl rfl (fun _ => qCmp_ct (hx1.rep.up uc sb) (hx1.le (hz _ _ (fl_lt hin).1 (fl_lt hin).2) (by omega)) (hx2.up uc sb) ⟨Nat.le_trans hl2.1 (by omega), Nat.le_trans hl2.2 (by omega)⟩) ?_
    rintro v3 U3 D3 hU3 ⟨rfl, -, rfl⟩
    try rw [List.nil_append]
    repeat (first | refine run_S ?_ | refine w_box (fun _ => ?_) | refine w_al (fun _ => ?_))
    refine st_ne rfl (fun h3 => ?_) (fun h3 => ?_)
    · repeat (first | refine run_S ?_ | refine w_box (fun _ => ?_) | refine w_al (fun _ => ?_))
      exact sk_ret [] sym rfl (.cons (.tmp rfl) .nil) uc sb (.inl rfl) ⟨rfl, 3, rfl, .inr rfl, (fun h => by cases h), fun h4 => by
        obtain ⟨-, q', hq⟩ := h4
        have h5 := (hE.ech.unique hq hE.same).2.2 _ _ (fl_lt hin).1 (fl_lt hin).2
        exact absurd (sign_zero.2 (sub_zero_iff.2 h5)) h3⟩
    · have h4 : fl n R i = fl n B i := sub_zero_iff.1 (sign_zero.1 h3)
      repeat (first | refine run_S ?_ | refine w_box (fun _ => ?_) | refine w_al (fun _ => ?_))
      refine sk_anti (M' := (b1, .var (.agg #[.int .i64 d, .int .i64 (r : Int), .int .i64 (n : Int), .slice p (r * n) cc]), TS) :: M) (ULe.refl _) (List.sublist_cons_self ..) ?_
      exact sk_again (E' := [(36, .int .i64 ((i : Int) + 1)), (35, .int .i64 ((r * n : Nat) : Int)), (34, .slice pR (r * n) cR), (1, .pointer (some ⟨b1, 0, none⟩))]) (m := r * n - (i + 1)) ⟨rfl, rfl, rfl, rfl, trivial⟩ (by omega) ⟨i + 1, by omega, (fun k hk' => by
        rcases Nat.lt_or_eq_of_le (Nat.le_of_lt_succ hk') with h5 | h5
        · exact hk k h5
        · rw [h5]; exact h4), rfl, uc, rfl, rfl⟩
  · have e : r * n = i := by omega
    subst e
    repeat (first | refine run_S ?_ | refine w_box (fun _ => ?_) | refine w_al (fun _ => ?_))
    refine sk_ret [] sym rfl (.cons (.tmp rfl) .nil) uc sb (.inl rfl) ⟨rfl, 0, rfl, .inl rfl, fun _ => ⟨hd, q, ?_⟩, fun _ => rfl⟩
    have hRB : ∀ i j, i < r → j < n → R i j = B i j := fun i j hi hj => by
      have := hk _ (ij_lt hi hj)
      rwa [fl_at hj, fl_at hj] at this
    exact ⟨hE.ech.lt, hE.ech.mono, fun i k hi hk => by rw [← hRB i _ hi (hE.ech.lt k hk)]; exact hE.ech.one i k hi hk, fun i j hi hj => by rw [← hRB i j hi (Nat.lt_trans hj (hE.ech.lt i hi))]; exact hE.ech.zero i j hi hj⟩

/-- Check of a subspace. -/
theorem sCheck_ok {r n b : Nat} {v : Value} {B : Nat → Nat → Rat} {q : Nat → Nat} (h : Sv (Wq b) r n U v B) (hE : La.Ech r n B q) (hb1 : 1 ≤ b) (hb : b ≤ 40000) (hn : n ≤ 6) :
    Ct Tryz.prog 31 [v] G U M fun v _ D => v = .int .i64 0 ∧ D = [] := by
  obtain ⟨_, rfl, p, c, vs, rfl, h2⟩ := id h
  exact (sCheck_ct h.vm hb1 hb (Nat.le_trans hE.le_n (by omega)) hn).mono fun _ _ _ _ ⟨h1, e, h3, _, h4⟩ => ⟨by rw [h3, h4.2 ⟨rfl, q, hE⟩], h1⟩

theorem sspace_ct {r n : Nat} {va : Value} {ok : UH → Value → Rat → Prop} {B : Nat → Nat → Rat} (_ : Kept ok) (h : Vm ok r n U va B) :
    Ct Tryz.prog 79 [va] G U M fun v U' D => Sv ok r n U' v B ∧ D = [] := by
  obtain ⟨_, rfl, p, c, vs, rfl, h2⟩ := id h
  refine ct_of_st Tryz.func79 rfl rfl rfl rfl ?_
  repeat (first | refine run_S ?_ | refine w_box (fun _ => ?_) | refine w_al (fun _ => ?_))
  refine sk_ret [] sym rfl (.cons (.cell 0 rfl rfl rfl) .nil) uc sb (.inl rfl) ?_
  exact ⟨h.sv, rfl⟩
/-- The span of rows, of which six at most are independent. -/
theorem sSpan_ct {m n b : Nat} {va : Value} {A : Nat → Nat → Rat} (ha : Vm (Wq b) m n U va A) (hb1 : 1 ≤ b) (hb : b ≤ 40000) (hm : m ≤ 1000) (hn : n ≤ 6) :
    Ct Tryz.prog 28 [va] G U M fun v U' D => ∃ (r : Nat) (R : Nat → Nat → Rat) (p : Nat → Nat) (vS : Value), v = .tuple #[vS, .int .i64 0] ∧ Sv Vq r n U' vS R ∧ La.Ech r n R p ∧ La.Same r m n R A ∧ D = [] := by
  have hg := gro_six hb
  have ha2 := ha
  have hmn : m * n ≤ 1000 * 6 := Nat.mul_le_mul hm hn
  obtain ⟨_, rfl, pa, cca, as1, rfl, -⟩ := ha
  refine ct_of_st Tryz.func28 rfl rfl rfl rfl ?_
  repeat (first | refine run_S ?_ | refine w_box (fun _ => ?_) | refine w_al (fun _ => ?_))
  refine sl_call rfl rfl rfl rfl rfl rfl (fun _ => mEchelon_ctg (w0 := 6) (kept_m kept_w _ _ _ _ uc ha2) hb1 (.inr hn) (by omega) (by omega) (by omega) (by omega)) ?_
  rintro v1 U1 D1 hU1 ⟨rr, R, q, vR, vp, rfl, hR, hp, rfl, hE, hz⟩
  try rw [List.nil_append]
  obtain ⟨_, rfl, pR, cR, rs, rfl, hcR, rR, eR⟩ := id hR
  obtain ⟨pp, cp, ps, rfl, -⟩ := id hp
  repeat (first | refine run_S ?_ | refine w_box (fun _ => ?_) | refine w_al (fun _ => ?_))
  refine st_ne rfl (fun h => absurd rfl h) (fun _ => ?_)
  repeat (first | refine run_S ?_ | refine w_box (fun _ => ?_) | refine w_al (fun _ => ?_))
  refine sl_call rfl rfl rfl rfl rfl rfl (fun _ => sspace_ct kept_q (kept_m kept_q _ _ _ _ uc hR)) ?_
  rintro v2 U2 D2 hU2 ⟨⟨_, rfl, p2, c2, vs2, rfl, h2⟩, rfl⟩
  try rw [List.nil_append]
  repeat (first | refine run_S ?_ | refine w_box (fun _ => ?_) | refine w_al (fun _ => ?_))
  exact sk_ret [] sym rfl (.cons (.cell 1 rfl rfl rfl) (.cons (.tmp rfl) .nil)) uc sb (.inl rfl) ⟨rr, R, q, _, rfl, ⟨_, rfl, p2, c2, vs2, rfl, h2⟩, hE.ech, hE.same, rfl⟩

theorem sZero_ct {n : Nat} (hn : n ≤ 1024) :
    Ct Tryz.prog 30 [.int .i64 (n : Int)] G U M fun v U' D => ∃ vS, v = .tuple #[vS, .int .i64 0] ∧ Sv Vq 0 n U' vS (fun _ _ => 0) ∧ D = [] := by
  refine ct_of_st Tryz.func30 rfl rfl rfl rfl ?_
  repeat (first | refine run_S ?_ | refine w_box (fun _ => ?_) | refine w_al (fun _ => ?_))
  refine sl_call rfl rfl rfl rfl rfl rfl (fun _ => mNew_ct (r := 0) (c := n) (by omega) hn) ?_
  rintro v1 U1 D1 hU1 ⟨_, rfl, hI, rfl⟩
  try rw [List.nil_append]
  obtain ⟨_, rfl, pR, cR, rs, rfl, -⟩ := id hI
  repeat (first | refine run_S ?_ | refine w_box (fun _ => ?_) | refine w_al (fun _ => ?_))
  refine sl_call rfl rfl rfl rfl rfl rfl (fun _ => sspace_ct kept_q (kept_m kept_q _ _ _ _ uc hI)) ?_
  rintro v2 U2 D2 hU2 ⟨⟨_, rfl, p2, c2, vs2, rfl, h2⟩, rfl⟩
  try rw [List.nil_append]
  repeat (first | refine run_S ?_ | refine w_box (fun _ => ?_) | refine w_al (fun _ => ?_))
  exact sk_ret [] sym rfl (.cons (.cell 1 rfl rfl rfl) (.cons (.tmp rfl) .nil)) uc sb (.inl rfl) ⟨_, rfl, ⟨_, rfl, p2, c2, vs2, rfl, h2⟩, rfl⟩

/-! ### pivots and the other columns -/
theorem wrap_idx {i n c : Nat} (h : i * n + c ≤ 9223372036854775807) : IntKind.i64.wrap (IntKind.i64.wrap ((i : Int) * (n : Int)) + (c : Int)) = ((i * n + c : Nat) : Int) := by
  have e1 : (i : Int) * (n : Int) = ((i * n : Nat) : Int) := (Int.natCast_mul i n).symm
  rw [e1, wrap_in (k := .i64) (n := ((i * n : Nat) : Int)) (by omega) (by simp only [kmax]; omega), show ((i * n : Nat) : Int) + (c : Int) = ((i * n + c : Nat) : Int) by rw [Int.natCast_add]]
  exact wrap_in (by omega) (by simp only [kmax]; omega)
theorem spivots_co {r n b : Nat} {v : Value} {B : Nat → Nat → Rat} {q : Nat → Nat} (h : Sv (Wq b) r n U v B) (hE : La.Ech r n B q) (hb : b ≤ 10000000000) (hn : n ≤ 1000) :
    Ct Tryz.prog 104 [v] G U M fun v U' D => Lo Vi TInt 1 r U' D v q ∧ ULe U U' := by
  have hr := hE.le_n
  have hrn : r * n ≤ 1000 * 1000 := Nat.mul_le_mul (by omega) hn
  obtain ⟨_, rfl, pb, cb, bs, rfl, hcb, rb, eb⟩ := h
  refine ct_of_st Tryz.func104 rfl rfl rfl rfl ?_
  repeat (first | refine run_S ?_ | refine w_box (fun _ => ?_) | refine w_al (fun _ => ?_))
  rename_i b1
  try refine st_anti (M' := (b1, .var (.agg #[.int .i64 (n : Int), .int .i64 (r : Int), .int .i64 (n : Int), .slice pb (r * n) cb]), TS) :: (([]) ++ M)) (ULe.refl _) sbk ?_
  refine st_loop (fun z E U' M' => ∃ (i : Nat) (P : Option Addr) (C : Nat) (vs : List Value) (D : MH), i ≤ r ∧ RowO TInt 1 D P i C vs ∧ El Vi U' vs q ∧ E = [(9, .int .i64 (i : Int)), (8, .int .i64 (r : Int)), (3, .slice P i C), (1, .pointer (some ⟨b1, 0, none⟩))] ∧ ULe U U' ∧ M' = (b1, .var (.agg #[.int .i64 (n : Int), .int .i64 (r : Int), .int .i64 (n : Int), .slice pb (r * n) cb]), TS) :: (D ++ M) ∧ z = r - i) (n0 := r - 0) (E0 := [(9, .int .i64 ((0 : Nat) : Int)), (8, .int .i64 (r : Int)), (3, .slice none 0 0), (1, .pointer (some ⟨b1, 0, none⟩))]) ⟨rfl, rfl, rfl, rfl, trivial⟩ ⟨0, none, 0, [], [], by omega, RowO.nil, El.nil, rfl, uc, rfl, rfl⟩ ?_
  rintro z E U1 M' ⟨i, P, C, vs, D, hi, hrow, hel, rfl, hU1, rfl, rfl⟩
  try refine run_s ?_
  refine st_dec rfl (fun h => ?_) (fun h => ?_)
  · have hir : i < r := by omega
    have hqn := hE.lt i hir
    repeat (first | refine run_S ?_ | refine w_box (fun _ => ?_) | refine w_al (fun _ => ?_))
    try refine st_anti (M' := (b1, .var (.agg #[.int .i64 (n : Int), .int .i64 (r : Int), .int .i64 (n : Int), .slice pb (r * n) cb]), TS) :: (D ++ M)) (ULe.refl _) sbk ?_
    refine st_loop (fun z E U' M' => ∃ (c : Nat), c ≤ q i ∧ E = [(5, .int .i64 (c : Int)), (4, .int .i64 (i : Int)), (9, .int .i64 (i : Int)), (8, .int .i64 (r : Int)), (3, .slice P i C), (1, .pointer (some ⟨b1, 0, none⟩))] ∧ ULe U1 U' ∧ M' = (b1, .var (.agg #[.int .i64 (n : Int), .int .i64 (r : Int), .int .i64 (n : Int), .slice pb (r * n) cb]), TS) :: (D ++ M) ∧ z = q i - c) (n0 := q i - 0) (E0 := [(5, .int .i64 ((0 : Nat) : Int)), (4, .int .i64 (i : Int)), (9, .int .i64 (i : Int)), (8, .int .i64 (r : Int)), (3, .slice P i C), (1, .pointer (some ⟨b1, 0, none⟩))]) ⟨rfl, rfl, rfl, rfl, rfl, rfl, trivial⟩ ⟨0, by omega, rfl, uc, rfl, rfl⟩ ?_
    rintro z E U2 M' ⟨c, hc, rfl, hU2, rfl, rfl⟩
    try refine run_s ?_
    have hin : i * n + c < r * n := ij_lt hir (by omega)
    have hirn : i * n ≤ r * n := Nat.mul_le_mul_right n (by omega)
    have rb2 := rb.up (U' := U2) (M' := (b1, .var (.agg #[.int .i64 (n : Int), .int .i64 (r : Int), .int .i64 (n : Int), .slice pb (r * n) cb]), TS) :: (D ++ M)) uc (List.nil_sublist _)
    obtain ⟨v2, hv2⟩ := rb2.at hin
    obtain ⟨x2, rfl, hx2, hl2⟩ := eb _ _ hv2
    rw [fl_at (by omega)] at hx2
    repeat (first | refine run_S ?_ | refine w_box (fun _ => ?_) | refine w_al (fun _ => ?_))
    refine sl_y (yl_index sym rfl rfl rfl rfl rfl ( (wrap_idx (by omega))) (rb2.lt hv2) (rb2.get _ _ hv2).1) rfl rfl rfl rfl ?_; refine sl_y (yl_loadRs sym rfl rfl rfl rfl rfl rb2 hv2) rfl rfl rfl rfl ?_
    repeat (first | refine run_S ?_ | refine w_box (fun _ => ?_) | refine w_al (fun _ => ?_))
    refine sl_call rfl rfl rfl rfl rfl rfl (fun _ => qSign_ct (hx2.up uc sb) ⟨Nat.le_trans hl2.1 (by omega), Nat.le_trans hl2.2 (by omega)⟩) ?_
    rintro v U' D hU ⟨rfl, rfl, rfl⟩
    repeat (first | refine run_S ?_ | refine w_box (fun _ => ?_) | refine w_al (fun _ => ?_))
    refine st_eq rfl (fun h2 => ?_) (fun h2 => ?_)
    · have h3 := sign_zero.1 h2
      have hne : c ≠ q i := fun e => by
        subst e
        rw [hE.one i i hir hir, if_pos rfl] at h3
        exact absurd h3 (by decide)
      repeat (first | refine run_S ?_ | refine w_box (fun _ => ?_) | refine w_al (fun _ => ?_))
      exact sk_again (E' := [(5, .int .i64 ((c : Int) + 1)), (4, .int .i64 (i : Int)), (9, .int .i64 (i : Int)), (8, .int .i64 (r : Int)), (3, .slice P i C), (1, .pointer (some ⟨b1, 0, none⟩))]) (m := q i - (c + 1)) ⟨rfl, rfl, rfl, rfl, rfl, rfl, trivial⟩ (by omega) ⟨c + 1, by omega, rfl, uc, rfl, rfl⟩
    · have e : q i = c := by
        rcases Nat.lt_or_eq_of_le hc with h3 | h3
        · exact absurd (sign_zero.2 (hE.zero i c hir h3)) h2
        · exact h3.symm
      repeat (first | refine run_S ?_ | refine w_box (fun _ => ?_) | refine w_al (fun _ => ?_))
      refine w_push hrow (perm1 (D := _)).symm (fun bhr2 phr2 chr2 Dhr2 hr2 => ?_)
      refine sl_perm ?_ (perm1 (D := Dhr2))
      repeat (first | refine run_S ?_ | refine w_box (fun _ => ?_) | refine w_al (fun _ => ?_))
      exact sk_again (E' := [(9, .int .i64 ((i : Int) + 1)), (8, .int .i64 (r : Int)), (3, .slice phr2 (i + 1) chr2), (1, .pointer (some ⟨b1, 0, none⟩))]) (m := r - (i + 1)) ⟨rfl, rfl, rfl, rfl, trivial⟩ (by omega) ⟨i + 1, phr2, chr2, _, Dhr2, by omega, hr2, snoc_ok hrow.len.1 hel (by rw [← e]; rfl), rfl, uc, rfl, rfl⟩
  · have e : r = i := by omega
    subst e
    repeat (first | refine run_S ?_ | refine w_box (fun _ => ?_) | refine w_al (fun _ => ?_))
    exact sk_ret D sym rfl (.cons (.tmp rfl) .nil) uc sb (.inl rfl) ⟨⟨P, C, vs, rfl, hrow, hel⟩, uc⟩

theorem sIndex_ct {r c1 : Nat} {v : Value} {q : Nat → Nat} (h : Ls Vi 1 r U M v q) (hr : r ≤ 1000000) :
    Ct Tryz.prog 151 [v, .int .i64 (c1 : Int)] G U M fun v U' D => ∃ e : Int, v = .int .i64 e ∧ (e ≥ 0 ↔ ∃ i, i < r ∧ q i = c1) ∧ U = U' ∧ D = [] := by
  obtain ⟨pa, ca, as1, rfl, hca, ra, ea⟩ := h
  refine ct_of_st Tryz.func151 rfl rfl rfl rfl ?_
  repeat (first | refine run_S ?_ | refine w_box (fun _ => ?_) | refine w_al (fun _ => ?_))
  refine st_loop (fun z E U' M' => ∃ i : Nat, i ≤ r ∧ (∀ k, k < i → q k ≠ c1) ∧ E = [(8, .int .i64 (i : Int)), (7, .int .i64 (r : Int)), (0, .slice pa r ca), (1, .int .i64 (c1 : Int))] ∧ U = U' ∧ M' = M ∧ z = r - i) (n0 := r)
    (E0 := [(8, .int .i64 ((0 : Nat) : Int)), (7, .int .i64 (r : Int)), (0, .slice pa r ca), (1, .int .i64 (c1 : Int))]) ⟨rfl, rfl, rfl, rfl, trivial⟩ ⟨0, by omega, (fun k hk => absurd hk (Nat.not_lt_zero k)), rfl, rfl, rfl, rfl⟩ ?_
  rintro z E U1 M' ⟨i, hi, hk, rfl, rfl, rfl, rfl⟩
  try refine run_s ?_
  refine st_dec rfl (fun h => ?_) (fun h => ?_)
  · have hir : i < r := by omega
    obtain ⟨v1, hv1⟩ := ra.at hir
    have e1 := ea _ _ hv1
    obtain rfl : v1 = .int .i64 (q i : Int) := e1
    repeat (first | refine run_S ?_ | refine w_box (fun _ => ?_) | refine w_al (fun _ => ?_))
    refine sl_y (yl_index sym rfl rfl rfl rfl rfl rfl (ra.lt hv1) (ra.get _ _ hv1).1) rfl rfl rfl rfl ?_; refine sl_y (yl_loadR1 sym rfl rfl rfl rfl ra hv1 rfl) rfl rfl rfl rfl ?_
    repeat (first | refine run_S ?_ | refine w_box (fun _ => ?_) | refine w_al (fun _ => ?_))
    refine st_eq rfl (fun h2 => ?_) (fun h2 => ?_)
    · repeat (first | refine run_S ?_ | refine w_box (fun _ => ?_) | refine w_al (fun _ => ?_))
      exact sk_ret [] sym rfl (.cons (.tmp rfl) .nil) uc sb (.inl rfl) ⟨_, rfl, ⟨fun _ => ⟨i, hir, by omega⟩, fun _ => by omega⟩, rfl, rfl⟩
    · repeat (first | refine run_S ?_ | refine w_box (fun _ => ?_) | refine w_al (fun _ => ?_))
      exact sk_again (E' := [(8, .int .i64 ((i : Int) + 1)), (7, .int .i64 (r : Int)), (0, .slice pa r ca), (1, .int .i64 (c1 : Int))]) (m := r - (i + 1)) ⟨rfl, rfl, rfl, rfl, trivial⟩ (by omega) ⟨i + 1, by omega, (fun k hk' => by
        rcases Nat.lt_or_eq_of_le (Nat.le_of_lt_succ hk') with h5 | h5
        · exact hk k h5
        · rw [h5]; omega), rfl, rfl, rfl, rfl⟩
  · have e : r = i := by omega
    subst e
    repeat (first | refine run_S ?_ | refine w_box (fun _ => ?_) | refine w_al (fun _ => ?_))
    exact sk_ret [] sym rfl (.cons (.tmp rfl) .nil) uc sb (.inl rfl) ⟨_, rfl, ⟨fun h => absurd h (by decide), fun ⟨k, h1, h2⟩ => absurd h2 (hk k h1)⟩, rfl, rfl⟩

theorem sContains_ct {r c1 : Nat} {v : Value} {q : Nat → Nat} (h : Ls Vi 1 r U M v q) (hr : r ≤ 1000000) :
    Ct Tryz.prog 124 [v, .int .i64 (c1 : Int)] G U M fun v U' D => ∃ s : Bool, v = .bool s ∧ (s = true ↔ ∃ i, i < r ∧ q i = c1) ∧ U = U' ∧ D = [] := by
  obtain ⟨pa, ca, as1, rfl, -⟩ := id h
  refine ct_of_st Tryz.func124 rfl rfl rfl rfl ?_
  repeat (first | refine run_S ?_ | refine w_box (fun _ => ?_) | refine w_al (fun _ => ?_))
  refine sl_call rfl rfl rfl rfl rfl rfl (fun _ => sIndex_ct (Ls.up (M' := _) h kept_i uc sb) hr) ?_
  rintro v1 U1 D1 hU1 ⟨e, rfl, he, rfl, rfl⟩
  try rw [List.nil_append]
  repeat (first | refine run_S ?_ | refine w_box (fun _ => ?_) | refine w_al (fun _ => ?_))
  by_cases h1 : e ≥ 0
  · rw [dec_true h1]
    exact sk_ret [] sym rfl (.cons (.tmp rfl) .nil) uc sb (.inl rfl) ⟨true, rfl, ⟨fun _ => he.1 h1, fun _ => rfl⟩, rfl, rfl⟩
  · rw [dec_false h1]
    exact sk_ret [] sym rfl (.cons (.tmp rfl) .nil) uc sb (.inl rfl) ⟨false, rfl, ⟨(fun h => by cases h), fun h => absurd (he.2 h) h1⟩, rfl, rfl⟩

theorem sothers_co {r n b : Nat} {v : Value} {B : Nat → Nat → Rat} {q : Nat → Nat} (h : Sv (Wq b) r n U v B) (hE : La.Ech r n B q) (hb : b ≤ 10000000000) (hn : n ≤ 1000) :
    Ct Tryz.prog 87 [v] G U M fun v U' D => ∃ (m : Nat) (f : Nat → Nat), Lo Vi TInt 1 m U' D v f ∧ La.Cols r n m q f ∧ m ≤ n ∧ ULe U U' := by
  have hr := hE.le_n
  have h0 := h
  obtain ⟨_, rfl, pb, cb, bs, rfl, -⟩ := h
  refine ct_of_st Tryz.func87 rfl rfl rfl rfl ?_
  repeat (first | refine run_S ?_ | refine w_box (fun _ => ?_) | refine w_al (fun _ => ?_))
  rename_i b1
  refine sl_call rfl rfl rfl rfl rfl rfl (fun _ => (spivots_co (kept_s kept_w _ _ _ _ uc h0) hE hb hn).setl kept_i) ?_
  rintro v1 U1 D1 hU1 ⟨h1, rfl⟩
  try rw [List.nil_append]
  obtain ⟨pp, cp, ps, rfl, hcp, rp, ep⟩ := h1
  repeat (first | refine run_S ?_ | refine w_box (fun _ => ?_) | refine w_al (fun _ => ?_))
  try refine st_anti (M' := (b1, .var (.agg #[.int .i64 (n : Int), .int .i64 (r : Int), .int .i64 (n : Int), .slice pb (r * n) cb]), TS) :: (([]) ++ M)) (ULe.refl _) sbk ?_
  refine st_loop (fun z E U' M' => ∃ (i m : Nat) (f : Nat → Nat) (P : Option Addr) (C : Nat) (vs : List Value) (D : MH), i ≤ n ∧ m ≤ i ∧ RowO TInt 1 D P m C vs ∧ El Vi U' vs f ∧ La.Cols r i m q f ∧ E = [(10, .int .i64 (i : Int)), (9, .int .i64 (n : Int)), (3, .slice P m C), (4, .slice pp r cp), (1, .pointer (some ⟨b1, 0, none⟩))] ∧ ULe U1 U' ∧ M' = (b1, .var (.agg #[.int .i64 (n : Int), .int .i64 (r : Int), .int .i64 (n : Int), .slice pb (r * n) cb]), TS) :: (D ++ M) ∧ z = n - i) (n0 := n - 0) (E0 := [(10, .int .i64 ((0 : Nat) : Int)), (9, .int .i64 (n : Int)), (3, .slice none 0 0), (4, .slice pp r cp), (1, .pointer (some ⟨b1, 0, none⟩))]) ⟨rfl, rfl, rfl, rfl, rfl, trivial⟩ ⟨0, 0, id, none, 0, [], [], by omega, by omega, RowO.nil, El.nil, La.Cols.start, rfl, uc, rfl, rfl⟩ ?_
  rintro z E U2 M' ⟨i, m, f, P, C, vs, D, hi, hm, hrow, hel, hc, rfl, hU2, rfl, rfl⟩
  try refine run_s ?_
  refine st_dec rfl (fun h => ?_) (fun h => ?_)
  · have hin : i < n := by omega
    repeat (first | refine run_S ?_ | refine w_box (fun _ => ?_) | refine w_al (fun _ => ?_))
    refine sl_call rfl rfl rfl rfl rfl rfl (fun _ => sContains_ct (c1 := i) (⟨pp, cp, ps, rfl, hcp, rp.up uc (List.nil_sublist _), ep⟩ : Ls Vi 1 r U2 _ (.slice pp r cp) q) (by omega)) ?_
    rintro v3 U3 D3 hU3 ⟨s, rfl, hs, rfl, rfl⟩
    try rw [List.nil_append]
    cases s
    · have hne : ¬ ∃ k, k < r ∧ q k = i := fun h => by have := hs.2 h; cases this
      repeat (first | refine run_S ?_ | refine w_box (fun _ => ?_) | refine w_al (fun _ => ?_))
      refine w_push hrow (perm1 (D := _)).symm (fun bhr2 phr2 chr2 Dhr2 hr2 => ?_)
      refine sl_perm ?_ (perm1 (D := Dhr2))
      repeat (first | refine run_S ?_ | refine w_box (fun _ => ?_) | refine w_al (fun _ => ?_))
      exact sk_again (E' := [(10, .int .i64 ((i : Int) + 1)), (9, .int .i64 (n : Int)), (3, .slice phr2 (m + 1) chr2), (4, .slice pp r cp), (1, .pointer (some ⟨b1, 0, none⟩))]) (m := n - (i + 1)) ⟨rfl, rfl, rfl, rfl, rfl, trivial⟩ (by omega) ⟨i + 1, m + 1, fun k => if k < m then f k else i, phr2, chr2, _, Dhr2, by omega, by omega, hr2, snoc_ok hrow.len.1 (El.congr hel hrow.len.1 fun k hk => (if_pos hk).symm) (by show _ = Value.int .i64 (((if m < m then f m else i) : Nat) : Int); rw [if_neg (Nat.lt_irrefl m)]), hc.more hne (fun k hk => if_pos hk) (if_neg (Nat.lt_irrefl m)), rfl, uc, rfl, rfl⟩
    · repeat (first | refine run_S ?_ | refine w_box (fun _ => ?_) | refine w_al (fun _ => ?_))
      exact sk_again (E' := [(10, .int .i64 ((i : Int) + 1)), (9, .int .i64 (n : Int)), (3, .slice P m C), (4, .slice pp r cp), (1, .pointer (some ⟨b1, 0, none⟩))]) (m := n - (i + 1)) ⟨rfl, rfl, rfl, rfl, rfl, trivial⟩ (by omega) ⟨i + 1, m, f, P, C, vs, D, by omega, by omega, hrow, hel, hc.pass (hs.1 rfl), rfl, uc, rfl, rfl⟩
  · have e : n = i := by omega
    subst e
    repeat (first | refine run_S ?_ | refine w_box (fun _ => ?_) | refine w_al (fun _ => ?_))
    exact sk_ret D sym rfl (.cons (.tmp rfl) .nil) uc sb (.inl rfl) ⟨m, f, ⟨P, C, vs, rfl, hrow, hel⟩, hc, hm, uc⟩

end Go.Proofs.YtocjmbilepbokaaGreat

/- Walks of subspace: what is left of a vector, coordinates, rows. -/
namespace Go.Proofs.YtocjmbilepbokaaGreat
open Go.Hp
variable {G : World} {U U' : UH} {M M' : MH}

theorem srow_ct {r n b i : Nat} {vm : Value} {B : Nat → Nat → Rat} (h : Vm (Wq b) r n U vm B) (hi : i < r) (hr : r ≤ 1000) (hn : n ≤ 1000) :
    Ct Tryz.prog 85 [vm, .int .i64 (i : Int)] G U M fun v U' D => Ls (Wq b) 4 n U' [] v (B i) ∧ U = U' ∧ D = [] := by
  have hrn : r * n ≤ 1000 * 1000 := Nat.mul_le_mul hr hn
  obtain ⟨_, rfl, p, cc, vs, rfl, hcc, rm, em⟩ := h
  have hlt : i * n + n ≤ r * n := by
    have := Nat.mul_le_mul_right n (show i + 1 ≤ r by omega)
    rwa [Nat.add_mul, Nat.one_mul] at this
  refine ct_of_st Tryz.func85 rfl rfl rfl rfl ?_
  repeat (first | refine run_S ?_ | refine w_box (fun _ => ?_) | refine w_al (fun _ => ?_))
  have e1 : (i : Int) * (n : Int) = ((i * n : Nat) : Int) := (Int.natCast_mul i n).symm
  have e2 : IntKind.i64.wrap (((i : Int) + 1) * (n : Int)) = ((i * n + n : Nat) : Int) := by
    rw [show ((i : Int) + 1) * (n : Int) = ((i * n + n : Nat) : Int) by rw [Int.add_mul, Int.one_mul, Int.natCast_add, Int.natCast_mul]]
    exact wrap_in (by omega) (by simp only [kmax]; omega)
  refine sl_y (yl_slice (l := i * n) (h := i * n + n) sym rfl rfl rfl rfl (.inr ⟨_, _, _, rfl, rfl, e1⟩) (.inr ⟨_, _, _, rfl, rfl, e2⟩) (by omega) (by omega)) rfl rfl rfl rfl ?_
  have hpart := rm.part (lo := i * n) (hi := i * n + n) (by omega) hlt hcc
  have e3 : i * n + n - i * n = n := by omega
  rw [e3] at hpart ⊢
  generalize (if cc = i * n then p else p.map (·.add (i * n * 4))) = p3 at hpart ⊢
  repeat (first | refine run_S ?_ | refine w_box (fun _ => ?_) | refine w_al (fun _ => ?_))
  refine sk_ret [] sym rfl (.cons (.tmp rfl) .nil) uc sb (.inl rfl) ⟨⟨p3, cc - i * n, _, rfl, by omega, hpart, fun k x hk => ?_⟩, rfl, rfl⟩
  have hkn := hpart.lt hk
  rw [List.getElem?_take_of_lt hkn, List.getElem?_drop] at hk
  have := em _ _ hk
  rwa [fl_at hkn] at this

theorem sClone_co {n : Nat} {v : Value} {g : Nat → Rat} (h : Ls Vq 4 n U M v g) (hn : n ≤ 1000000) :
    Ct Tryz.prog 106 [v] G U M fun v U' D => Lo Vq TR 4 n U' D v g ∧ U = U' := by
  obtain ⟨p, c, vs, rfl, hc, rv, ev⟩ := h
  refine ct_of_st Tryz.func106 rfl rfl rfl rfl ?_
  try refine run_s ?_
  cases p with
  | none =>
    have : vs = [] := by
      cases vs with
      | nil => rfl
      | cons d r =>
        have := (rv.get 0 d rfl).1
        cases this
    subst this
    obtain rfl : n = 0 := rv.len.symm
    try refine run_s ?_
    exact sk_ret [] sym rfl (.cons (.tmp rfl) .nil) uc sb (.inl rfl) ⟨Lo.nil, rfl⟩
  | some q =>
    try refine run_s ?_
    refine w_bs0 (fun b => ?_) rfl
    have hrow : RowO TR 4 [(b, .arr [], TR)] (some ⟨b, 0, none⟩) 0 0 [] := RowO.mk rfl (fun _ h => by cases h) (by omega)
    try refine run_s ?_
    refine w_app hrow (X := M) (List.Perm.refl _) (rv.up uc (List.sublist_cons_self ..)) (El.ones ev fun _ _ h => one_q h) (fun p' cc D' hr' => ?_)
    rw [Nat.zero_add] at hr'
    simp only [Nat.zero_add]
    try refine run_s ?_
    exact sk_ret D' sym rfl (.cons (.tmp rfl) .nil) uc sb (.inl rfl) ⟨⟨p', cc, vs, rfl, hr', ev⟩, rfl⟩

theorem szero_ct {n : Nat} {v : Value} {g : Nat → Rat} (h : Ls Vq 4 n U M v g) (hs : ∀ j, j < n → Szq (g j) 200000000000) (hn : n ≤ 1000000) :
    Ct Tryz.prog 65 [v] G U M fun v U' D => ∃ s : Bool, v = .bool s ∧ (s = true ↔ ∀ j, j < n → g j = 0) ∧ U = U' ∧ D = [] := by
  have one : ∀ (M : MH) (x : QV) (q : Rat), x.nrm U [] q → x.le 274877906944 → Ct Tryz.prog 110 [x.v] G U M fun v U' D => ∃ s : Bool, v = .bool s ∧ (s = true ↔ q ≠ 0) ∧ U = U' ∧ D = [] := by
    intro M x q hx hl
    refine ct_of_st Tryz.func110 rfl rfl rfl rfl ?_
    repeat (first | refine run_S ?_ | refine w_box (fun _ => ?_) | refine w_al (fun _ => ?_))
    refine sl_call rfl rfl rfl rfl rfl rfl (fun _ => qSign_ct (hx.rep.up uc sb) hl) ?_
    rintro v U' D hU ⟨rfl, rfl, rfl⟩
    repeat (first | refine run_S ?_ | refine w_box (fun _ => ?_) | refine w_al (fun _ => ?_))
    by_cases h1 : q.num.sign ≠ 0
    · rw [dec_true h1]
      exact sk_ret [] sym rfl (.cons (.tmp rfl) .nil) uc sb (.inl rfl) ⟨true, rfl, ⟨fun _ h => h1 (sign_zero.2 h), fun _ => rfl⟩, rfl, rfl⟩
    · rw [dec_false h1]
      exact sk_ret [] sym rfl (.cons (.tmp rfl) .nil) uc sb (.inl rfl) ⟨false, rfl, ⟨(fun h => by cases h), fun h => absurd (fun e => h (sign_zero.1 e)) h1⟩, rfl, rfl⟩
  have idx : ∀ M, Ls Vq 4 n U M v g → Ct Tryz.prog 139 [v, .func (.func 110) #[] #[]] G U M fun v U' D => ∃ e : Int, v = .int .i64 e ∧ (e ≥ 0 ↔ ¬ ∀ j, j < n → g j = 0) ∧ U = U' ∧ D = [] := by
    intro M h
    obtain ⟨p, c, vs, rfl, hc, rv, ev⟩ := h
    refine ct_of_st Tryz.func139 rfl rfl rfl rfl ?_
    repeat (first | refine run_S ?_ | refine w_box (fun _ => ?_) | refine w_al (fun _ => ?_))
    refine st_loop (fun z E U' M' => ∃ i : Nat, i ≤ n ∧ (∀ k, k < i → g k = 0) ∧ E = [(8, .int .i64 (i : Int)), (7, .int .i64 (n : Int)), (0, .slice p n c), (1, .func (.func 110) #[] #[])] ∧ U = U' ∧ M' = M ∧ z = n - i) (n0 := n)
      (E0 := [(8, .int .i64 ((0 : Nat) : Int)), (7, .int .i64 (n : Int)), (0, .slice p n c), (1, .func (.func 110) #[] #[])]) ⟨rfl, rfl, rfl, rfl, trivial⟩ ⟨0, by omega, (fun k hk => absurd hk (Nat.not_lt_zero k)), rfl, rfl, rfl, rfl⟩ ?_
    rintro z E U1 M' ⟨i, hi, hk, rfl, rfl, rfl, rfl⟩
    try refine run_s ?_
    refine st_dec rfl (fun h => ?_) (fun h => ?_)
    · have hin : i < n := by omega
      obtain ⟨v1, hv1⟩ := rv.at hin
      obtain ⟨x1, rfl, hx1⟩ := ev _ _ hv1
      repeat (first | refine run_S ?_ | refine w_box (fun _ => ?_) | refine w_al (fun _ => ?_))
      refine sl_y (yl_index sym rfl rfl rfl rfl rfl rfl (rv.lt hv1) (rv.get _ _ hv1).1) rfl rfl rfl rfl ?_; refine sl_y (yl_loadRs sym rfl rfl rfl rfl rfl rv hv1) rfl rfl rfl rfl ?_
      repeat (first | refine run_S ?_ | refine w_box (fun _ => ?_) | refine w_al (fun _ => ?_))
      refine sl_callV (cs := []) rfl rfl rfl rfl rfl rfl rfl (fun M2 => one _ x1 _ hx1 (hx1.le (hs i hin) (by omega))) ?_
      rintro v2 U2 D2 hU2 ⟨s, rfl, hs2, rfl, rfl⟩
      rw [List.nil_append]
      cases s
      · have h0 : g i = 0 := Classical.not_not.1 fun h => by have := hs2.2 h; cases this
        repeat (first | refine run_S ?_ | refine w_box (fun _ => ?_) | refine w_al (fun _ => ?_))
        exact sk_again (E' := [(8, .int .i64 ((i : Int) + 1)), (7, .int .i64 (n : Int)), (0, .slice p n c), (1, .func (.func 110) #[] #[])]) (m := n - (i + 1)) ⟨rfl, rfl, rfl, rfl, trivial⟩ (by omega) ⟨i + 1, by omega, (fun k hk' => by
          rcases Nat.lt_or_eq_of_le (Nat.le_of_lt_succ hk') with h5 | h5
          · exact hk k h5
          · rw [h5]; exact h0), rfl, rfl, rfl, rfl⟩
      · repeat (first | refine run_S ?_ | refine w_box (fun _ => ?_) | refine w_al (fun _ => ?_))
        exact sk_ret [] sym rfl (.cons (.tmp rfl) .nil) uc sb (.inl rfl) ⟨_, rfl, ⟨fun _ h3 => (hs2.1 rfl) (h3 i hin), fun _ => by omega⟩, rfl, rfl⟩
    · have e : n = i := by omega
      subst e
      repeat (first | refine run_S ?_ | refine w_box (fun _ => ?_) | refine w_al (fun _ => ?_))
      exact sk_ret [] sym rfl (.cons (.tmp rfl) .nil) uc sb (.inl rfl) ⟨_, rfl, ⟨fun h => absurd h (by decide), fun h3 => absurd hk h3⟩, rfl, rfl⟩
  have cf : ∀ M, Ls Vq 4 n U M v g → Ct Tryz.prog 109 [v, .func (.func 110) #[] #[]] G U M fun v U' D => ∃ s : Bool, v = .bool s ∧ (s = true ↔ ¬ ∀ j, j < n → g j = 0) ∧ U = U' ∧ D = [] := by
    intro M h
    obtain ⟨p, c, vs, rfl, -⟩ := id h
    refine ct_of_st Tryz.func109 rfl rfl rfl rfl ?_
    repeat (first | refine run_S ?_ | refine w_box (fun _ => ?_) | refine w_al (fun _ => ?_))
    refine sl_call rfl rfl rfl rfl rfl rfl (fun _ => idx _ (h.up kept_q uc sb)) ?_
    rintro v1 U1 D1 hU1 ⟨e, rfl, he, rfl, rfl⟩
    try rw [List.nil_append]
    repeat (first | refine run_S ?_ | refine w_box (fun _ => ?_) | refine w_al (fun _ => ?_))
    by_cases h1 : e ≥ 0
    · rw [dec_true h1]
      exact sk_ret [] sym rfl (.cons (.tmp rfl) .nil) uc sb (.inl rfl) ⟨true, rfl, ⟨fun _ => he.1 h1, fun _ => rfl⟩, rfl, rfl⟩
    · rw [dec_false h1]
      exact sk_ret [] sym rfl (.cons (.tmp rfl) .nil) uc sb (.inl rfl) ⟨false, rfl, ⟨(fun h => by cases h), fun h => absurd (he.2 h) h1⟩, rfl, rfl⟩
  obtain ⟨p, c, vs, rfl, -⟩ := id h
  refine ct_of_st Tryz.func65 rfl rfl rfl rfl ?_
  repeat (first | refine run_S ?_ | refine w_box (fun _ => ?_) | refine w_al (fun _ => ?_))
  refine sl_call rfl rfl rfl rfl rfl rfl (fun _ => cf _ (h.up kept_q uc sb)) ?_
  rintro v1 U1 D1 hU1 ⟨s, rfl, hs1, rfl, rfl⟩
  try rw [List.nil_append]
  repeat (first | refine run_S ?_ | refine w_box (fun _ => ?_) | refine w_al (fun _ => ?_))
  cases s
  · exact sk_ret [] sym rfl (.cons (.tmp rfl) .nil) uc sb (.inl rfl) ⟨true, rfl, ⟨(fun _ => Classical.not_not.1 fun h => by have := hs1.2 h; cases this), fun _ => rfl⟩, rfl, rfl⟩
  · exact sk_ret [] sym rfl (.cons (.tmp rfl) .nil) uc sb (.inl rfl) ⟨false, rfl, ⟨(fun h => by cases h), fun h => absurd h (hs1.1 rfl)⟩, rfl, rfl⟩

/-- Digits of what is left. -/
theorem szq_prj {n k b bv : Nat} {B : Nat → Nat → Rat} {q : Nat → Nat} {f : Nat → Rat} (hk : k ≤ 6) (hq : ∀ i, i < k → q i < n) (hB : ∀ i j, i < k → j < n → Szq (B i j) b) (hf : ∀ j, j < n → Szq (f j) bv) {j : Nat} (hj : j < n) :
    Szq (La.prj k B q f j) (8 * bv + 6 * b + 8) := by
  have h1 : Szq (La.sm k fun i => f (q i) * B i j) (1 + k * (bv + b + 1)) := szq_sm fun i hi => (hf _ (hq i hi)).mul (hB i j hi hj)
  have h2 : k * (bv + b + 1) ≤ 6 * (bv + b + 1) := Nat.mul_le_mul_right _ hk
  exact ((hf j hj).add h1.neg).mono (by omega)

set_option maxHeartbeats 1000000 in
theorem ssplit_co {r n b bv : Nat} {v vv : Value} {B : Nat → Nat → Rat} {q : Nat → Nat} {f : Nat → Rat} (h : Sv (Wq b) r n U v B) (hE : La.Ech r n B q) (hv : Ls (Wq bv) 4 n U [] vv f) (hb1 : 1 ≤ b) (hb : b ≤ 1000000000) (hbv1 : 1 ≤ bv) (hbv : bv ≤ 1000000000) (hn : n ≤ 6) :
    Ct Tryz.prog 64 [v, vv] G U M fun v U' D => ∃ (vc vr : Value) (D1 D2 : MH), v = .tuple #[vc, vr] ∧ D = D2 ++ D1 ∧ Lo Vq TR 4 r U' D1 vc (fun i => f (q i)) ∧ Lo Vq TR 4 n U' D2 vr (La.prj r B q f) ∧ ULe U U' := by
  have hr : r ≤ 6 := Nat.le_trans hE.le_n hn
  have hrn : r * n ≤ 6 * 6 := Nat.mul_le_mul hr hn
  have sB : ∀ i j, i < r → j < n → Szq (B i j) b := fun i j hi hj => h.sz hb1 hi hj
  have sf : ∀ j, j < n → Szq (f j) bv := fun j hj => hv.sz hbv1 hj
  have sP : ∀ k, k ≤ r → ∀ j, j < n → Szq (La.prj k B q f j) (8 * bv + 6 * b + 8) := fun k hk j hj => szq_prj (by omega) (fun i hi => hE.lt i (by omega)) (fun i j hi hj => sB i j (by omega) hj) sf hj
  have h0 := h
  obtain ⟨_, rfl, pb, cb, bs, rfl, hcb, rb, eb⟩ := h
  obtain ⟨pv, cv, vs0, rfl, hcv, rv, ev⟩ := hv
  refine ct_of_st Tryz.func64 rfl rfl rfl rfl ?_
  repeat (first | refine run_S ?_ | refine w_box (fun _ => ?_) | refine w_al (fun _ => ?_))
  rename_i b2
  try refine st_anti (M' := (b2, .var (.agg #[.int .i64 (n : Int), .int .i64 (r : Int), .int .i64 (n : Int), .slice pb (r * n) cb]), TS) :: (([]) ++ M)) (ULe.refl _) sbk ?_
  refine st_loop (fun z E U' M' => ∃ (i : Nat) (P : Option Addr) (C : Nat) (vs : List Value) (D : MH), i ≤ n ∧ RowO TR 4 D P i C vs ∧ El Vq U' vs f ∧ E = [(16, .int .i64 (i : Int)), (15, .int .i64 (n : Int)), (14, .slice pv n cv), (5, .slice P i C), (4, .slice none 0 0), (2, .pointer (some ⟨b2, 0, none⟩))] ∧ ULe U U' ∧ M' = (b2, .var (.agg #[.int .i64 (n : Int), .int .i64 (r : Int), .int .i64 (n : Int), .slice pb (r * n) cb]), TS) :: (D ++ M) ∧ z = n - i) (n0 := n - 0) (E0 := [(16, .int .i64 ((0 : Nat) : Int)), (15, .int .i64 (n : Int)), (14, .slice pv n cv), (5, .slice none 0 0), (4, .slice none 0 0), (2, .pointer (some ⟨b2, 0, none⟩))]) ⟨rfl, rfl, rfl, rfl, rfl, rfl, trivial⟩ ⟨0, none, 0, [], [], by omega, RowO.nil, El.nil, rfl, uc, rfl, rfl⟩ ?_
  rintro z E U1 M' ⟨i, P, C, vs, D, hi, hrow, hel, rfl, hU1, rfl, rfl⟩
  try refine run_s ?_
  refine st_dec rfl (fun h => ?_) (fun h => ?_)
  · have hin : i < n := by omega
    have rv2 := rv.up (U' := U1) (M' := (b2, .var (.agg #[.int .i64 (n : Int), .int .i64 (r : Int), .int .i64 (n : Int), .slice pb (r * n) cb]), TS) :: (D ++ M)) uc (List.nil_sublist _)
    obtain ⟨v1, hv1⟩ := rv2.at hin
    obtain ⟨x1, rfl, hx1, hl1⟩ := ev _ _ hv1
    repeat (first | refine run_S ?_ | refine w_box (fun _ => ?_) | refine w_al (fun _ => ?_))
    refine sl_y (yl_index sym rfl rfl rfl rfl rfl rfl (rv2.lt hv1) (rv2.get _ _ hv1).1) rfl rfl rfl rfl ?_; refine sl_y (yl_loadRs sym rfl rfl rfl rfl rfl rv2 hv1) rfl rfl rfl rfl ?_
    repeat (first | refine run_S ?_ | refine w_box (fun _ => ?_) | refine w_al (fun _ => ?_))
    rename_i b7
    refine sl_call rfl rfl rfl rfl rfl rfl (fun _ => (qNormal_ct (hx1.up uc sb) ⟨Nat.le_trans hl1.1 (by omega), Nat.le_trans hl1.2 (by omega)⟩).settle) ?_
    rintro v Uh2 D hU ⟨rfl, _, _, ⟨xh2, rfl, h2, -⟩, -, -, hs⟩
    replace h2 := h2.sett hs
    clear hs
    repeat (first | refine run_S ?_ | refine w_box (fun _ => ?_) | refine w_al (fun _ => ?_))
    refine w_push hrow (perm2 (D := _)).symm (fun bhr2 phr2 chr2 Dhr2 hr2 => ?_)
    refine sl_perm ?_ (perm2 (D := Dhr2))
    repeat (first | refine run_S ?_ | refine w_box (fun _ => ?_) | refine w_al (fun _ => ?_))
    refine sk_anti (M' := (b2, .var (.agg #[.int .i64 (n : Int), .int .i64 (r : Int), .int .i64 (n : Int), .slice pb (r * n) cb]), TS) :: (Dhr2 ++ M)) (ULe.refl _) (List.sublist_cons_self ..) ?_
    exact sk_again (E' := [(16, .int .i64 ((i : Int) + 1)), (15, .int .i64 (n : Int)), (14, .slice pv n cv), (5, .slice phr2 (i + 1) chr2), (4, .slice none 0 0), (2, .pointer (some ⟨b2, 0, none⟩))]) (m := n - (i + 1)) ⟨rfl, rfl, rfl, rfl, rfl, rfl, trivial⟩ (by omega) ⟨i + 1, phr2, chr2, _, Dhr2, by omega, hr2, snoc_ok hrow.len.1 (hel.up kept_q uc) ⟨xh2, rfl, h2⟩, rfl, uc, rfl, rfl⟩
  have e : n = i := by omega
  subst e
  clear h
  repeat (first | refine run_S ?_ | refine w_box (fun _ => ?_) | refine w_al (fun _ => ?_))
  refine sl_call rfl rfl rfl rfl rfl rfl (fun _ => (spivots_co (kept_s kept_w _ _ _ _ uc h0) hE (by omega) (by omega)).setl kept_i) ?_
  rintro v2 U2 D2 hU2 ⟨h2, rfl⟩
  try rw [List.nil_append]
  obtain ⟨pp, cp, ps, rfl, hcp, rp, ep⟩ := h2
  repeat (first | refine run_S ?_ | refine w_box (fun _ => ?_) | refine w_al (fun _ => ?_))
  refine st_perm (M' := (b2, .var (.agg #[.int .i64 (n : Int), .int .i64 (r : Int), .int .i64 (n : Int), .slice pb (r * n) cb]), TS) :: (D ++ ([] ++ M))) (by rw [List.nil_append]) ?_
  try refine st_anti (M' := (b2, .var (.agg #[.int .i64 (n : Int), .int .i64 (r : Int), .int .i64 (n : Int), .slice pb (r * n) cb]), TS) :: (D ++ (([]) ++ M))) (ULe.refl _) sbk ?_
  refine st_loop (fun z E U' M' => ∃ (k : Nat) (P : Option Addr) (C : Nat) (vs : List Value) (D : MH) (Pc : Option Addr) (Cc : Nat) (cs : List Value) (Dc : MH), k ≤ r ∧ RowO TR 4 D P n C vs ∧ El Vq U' vs (La.prj k B q f) ∧ RowO TR 4 Dc Pc k Cc cs ∧ El Vq U' cs (fun i => f (q i)) ∧ E = [(29, .int .i64 (k : Int)), (28, .int .i64 (r : Int)), (27, .slice pp r cp), (5, .slice P n C), (4, .slice Pc k Cc), (2, .pointer (some ⟨b2, 0, none⟩))] ∧ ULe U2 U' ∧ M' = (b2, .var (.agg #[.int .i64 (n : Int), .int .i64 (r : Int), .int .i64 (n : Int), .slice pb (r * n) cb]), TS) :: (D ++ (Dc ++ M)) ∧ z = r - k) (n0 := r - 0) (E0 := [(29, .int .i64 ((0 : Nat) : Int)), (28, .int .i64 (r : Int)), (27, .slice pp r cp), (5, .slice P n C), (4, .slice none 0 0), (2, .pointer (some ⟨b2, 0, none⟩))]) ⟨rfl, rfl, rfl, rfl, rfl, rfl, trivial⟩ ⟨0, P, C, vs, D, none, 0, [], [], by omega, hrow, (hel.up kept_q uc).congr hrow.len.1 (fun j _ => La.prj_zero_eq.symm), RowO.nil, El.nil, rfl, uc, rfl, rfl⟩ ?_
  clear hrow hel
  rintro z E U3 M' ⟨k, P, C, vs, D, Pc, Cc, cs, Dc, hk, hrow, hel, hrc, hec, rfl, hU3, rfl, rfl⟩
  try refine run_s ?_
  refine st_dec rfl (fun h => ?_) (fun h => ?_)
  · have hkr : k < r := by omega
    have hqn := hE.lt k hkr
    have rp2 := rp.up (U' := U3) (M' := (b2, .var (.agg #[.int .i64 (n : Int), .int .i64 (r : Int), .int .i64 (n : Int), .slice pb (r * n) cb]), TS) :: (D ++ (Dc ++ M))) uc (List.nil_sublist _)
    obtain ⟨v1, hv1⟩ := rp2.at hkr
    obtain rfl : v1 = .int .i64 (q k : Int) := ep _ _ hv1
    have rA := hrow.at (U := U3) (M := (b2, .var (.agg #[.int .i64 (n : Int), .int .i64 (r : Int), .int .i64 (n : Int), .slice pb (r * n) cb]), TS) :: (D ++ (Dc ++ M))) sb
    obtain ⟨v2, hv2⟩ := rA.at hqn
    obtain ⟨x2, rfl, hx2⟩ := hel _ _ hv2
    rw [La.prj_at hE hkr (Nat.le_refl k)] at hx2
    repeat (first | refine run_S ?_ | refine w_box (fun _ => ?_) | refine w_al (fun _ => ?_))
    refine sl_y (yl_index sym rfl rfl rfl rfl rfl rfl (rp2.lt hv1) (rp2.get _ _ hv1).1) rfl rfl rfl rfl ?_; refine sl_y (yl_loadR1 sym rfl rfl rfl rfl rp2 hv1 rfl) rfl rfl rfl rfl ?_
    repeat (first | refine run_S ?_ | refine w_box (fun _ => ?_) | refine w_al (fun _ => ?_))
    refine sl_y (yl_index sym rfl rfl rfl rfl rfl rfl (rA.lt hv2) (rA.get _ _ hv2).1) rfl rfl rfl rfl ?_; refine sl_y (yl_loadRs sym rfl rfl rfl rfl rfl rA hv2) rfl rfl rfl rfl ?_
    repeat (first | refine run_S ?_ | refine w_box (fun _ => ?_) | refine w_al (fun _ => ?_))
    rename_i b10
    refine sl_perm (M := (b10, .var x2.v, TR) :: (b2, .var (.agg #[.int .i64 (n : Int), .int .i64 (r : Int), .int .i64 (n : Int), .slice pb (r * n) cb]), TS) :: (D ++ (Dc ++ M))) (M' := (b10, .var x2.v, TR) :: (b2, .var (.agg #[.int .i64 (n : Int), .int .i64 (r : Int), .int .i64 (n : Int), .slice pb (r * n) cb]), TS) :: (Dc ++ (D ++ M))) ?_ pms
    refine w_push hrc (X := (b10, .var x2.v, TR) :: (b2, .var (.agg #[.int .i64 (n : Int), .int .i64 (r : Int), .int .i64 (n : Int), .slice pb (r * n) cb]), TS) :: (D ++ M)) pms (fun bq Pc2 Cc2 Dc2 hrc2 => ?_)
    refine sl_perm (M' := (b10, .var x2.v, TR) :: (b2, .var (.agg #[.int .i64 (n : Int), .int .i64 (r : Int), .int .i64 (n : Int), .slice pb (r * n) cb]), TS) :: (D ++ (Dc2 ++ M))) ?_ pms
    have hec2 := snoc_ok hrc.len.1 hec ⟨x2, rfl, hx2⟩
    repeat (first | refine run_S ?_ | refine w_box (fun _ => ?_) | refine w_al (fun _ => ?_))
    refine sl_call rfl rfl rfl rfl rfl rfl (fun _ => qSign_ct (hx2.rep.up uc sb) (hx2.le (sf _ hqn) (by omega))) ?_
    rintro v U' D hU ⟨rfl, rfl, rfl⟩
    repeat (first | refine run_S ?_ | refine w_box (fun _ => ?_) | refine w_al (fun _ => ?_))
    refine st_eq rfl (fun h2 => ?_) (fun h2 => ?_)
    · have h3 := sign_zero.1 h2
      repeat (first | refine run_S ?_ | refine w_box (fun _ => ?_) | refine w_al (fun _ => ?_))
      refine sk_anti (M' := (b2, .var (.agg #[.int .i64 (n : Int), .int .i64 (r : Int), .int .i64 (n : Int), .slice pb (r * n) cb]), TS) :: (D ++ (Dc2 ++ M))) (ULe.refl _) (List.sublist_cons_self ..) ?_
      exact sk_again (E' := [(29, .int .i64 ((k : Int) + 1)), (28, .int .i64 (r : Int)), (27, .slice pp r cp), (5, .slice P n C), (4, .slice Pc2 (k + 1) Cc2), (2, .pointer (some ⟨b2, 0, none⟩))]) (m := r - (k + 1)) ⟨rfl, rfl, rfl, rfl, rfl, rfl, trivial⟩ (by omega) ⟨k + 1, P, C, vs, D, Pc2, Cc2, _, Dc2, by omega, hrow, hel.congr hrow.len.1 (fun j _ => by rw [La.prj_succ, h3, La.neg_zero, La.zero_mul, La.add_zero]), hrc2, hec2, rfl, uc, rfl, rfl⟩
    · repeat (first | refine run_S ?_ | refine w_box (fun _ => ?_) | refine w_al (fun _ => ?_))
      refine sl_call rfl rfl rfl rfl rfl rfl (fun _ => sClone_co (⟨P, C, vs, rfl, hrow.len.2.1, hrow.at sb, hel⟩ : Ls Vq 4 n U3 _ _ _) (by omega)) ?_
      rintro v4 U4 D4 hU4 ⟨⟨P2, C2, vs2, rfl, hrow2, hel2⟩, rfl⟩
      try rw [List.nil_append]
      refine sl_perm (M' := (b10, .var x2.v, TR) :: (b2, .var (.agg #[.int .i64 (n : Int), .int .i64 (r : Int), .int .i64 (n : Int), .slice pb (r * n) cb]), TS) :: (D4 ++ (D ++ (Dc2 ++ M)))) ?_ pms
      repeat (first | refine run_S ?_ | refine w_box (fun _ => ?_) | refine w_al (fun _ => ?_))
      try refine st_anti (M' := (b10, .var x2.v, TR) :: (b2, .var (.agg #[.int .i64 (n : Int), .int .i64 (r : Int), .int .i64 (n : Int), .slice pb (r * n) cb]), TS) :: (D4 ++ (D ++ (Dc2 ++ M)))) (ULe.refl _) sbk ?_
      refine st_loop (fun z E U' M' => ∃ (j : Nat) (vs2 : List Value) (D2 : MH), j ≤ n ∧ RowO TR 4 D2 P2 n C2 vs2 ∧ El Vq U' vs2 (fun a => if a < j then La.prj (k + 1) B q f a else La.prj k B q f a) ∧ E = [(49, .int .i64 (j : Int)), (48, .int .i64 (n : Int)), (11, .slice P2 n C2), (5, .slice P n C), (10, .pointer (some ⟨b10, 0, none⟩)), (8, .int .i64 (k : Int)), (2, .pointer (some ⟨b2, 0, none⟩)), (29, .int .i64 (k : Int)), (28, .int .i64 (r : Int)), (27, .slice pp r cp), (4, .slice Pc2 ((k + 1 : Nat)) Cc2)] ∧ ULe U3 U' ∧ M' = (b10, .var x2.v, TR) :: (b2, .var (.agg #[.int .i64 (n : Int), .int .i64 (r : Int), .int .i64 (n : Int), .slice pb (r * n) cb]), TS) :: (D2 ++ (D ++ (Dc2 ++ M))) ∧ z = n - j) (n0 := n - 0) (E0 := [(49, .int .i64 ((0 : Nat) : Int)), (48, .int .i64 (n : Int)), (11, .slice P2 n C2), (5, .slice P n C), (10, .pointer (some ⟨b10, 0, none⟩)), (8, .int .i64 (k : Int)), (2, .pointer (some ⟨b2, 0, none⟩)), (29, .int .i64 (k : Int)), (28, .int .i64 (r : Int)), (27, .slice pp r cp), (4, .slice Pc2 ((k + 1 : Nat)) Cc2)]) ⟨rfl, rfl, rfl, rfl, rfl, rfl, rfl, rfl, rfl, rfl, rfl, trivial⟩ ⟨0, vs2, D4, by omega, hrow2, by simpa using hel2, rfl, uc, rfl, rfl⟩ ?_
      clear hrow2 hel2
      rintro z E U5 M' ⟨j, vs2, D2, hj, hrow2, hel2, rfl, hU5, rfl, rfl⟩
      try refine run_s ?_
      refine st_dec rfl (fun h => ?_) (fun h => ?_)
      · have hjn : j < n := by omega
        have hkn : k * n + j < r * n := ij_lt hkr hjn
        have hkn2 : k * n ≤ r * n := Nat.mul_le_mul_right n (by omega)
        have e1 : ((k : Int) * (n : Int)) = ((k * n : Nat) : Int) := (Int.natCast_mul k n).symm
        have rb2 := rb.up (U' := U5) (M' := (b10, .var x2.v, TR) :: (b2, .var (.agg #[.int .i64 (n : Int), .int .i64 (r : Int), .int .i64 (n : Int), .slice pb (r * n) cb]), TS) :: (D2 ++ (D ++ (Dc2 ++ M)))) uc (List.nil_sublist _)
        obtain ⟨v3, hv3⟩ := rb2.at hkn
        obtain ⟨x3, rfl, hx3, hl3⟩ := eb _ _ hv3
        rw [fl_at hjn] at hx3
        repeat (first | refine run_S ?_ | refine w_box (fun _ => ?_) | refine w_al (fun _ => ?_))
        refine sl_y (yl_index sym rfl rfl rfl rfl rfl ( (by rw [e1]; rfl)) (rb2.lt hv3) (rb2.get _ _ hv3).1) rfl rfl rfl rfl ?_; refine sl_y (yl_loadRs sym rfl rfl rfl rfl rfl rb2 hv3) rfl rfl rfl rfl ?_
        repeat (first | refine run_S ?_ | refine w_box (fun _ => ?_) | refine w_al (fun _ => ?_))
        rename_i b13
        refine sl_call rfl rfl rfl rfl rfl rfl (fun _ => qSign_ct (hx3.up uc sb) ⟨Nat.le_trans hl3.1 (by omega), Nat.le_trans hl3.2 (by omega)⟩) ?_
        rintro v U' D hU ⟨rfl, rfl, rfl⟩
        repeat (first | refine run_S ?_ | refine w_box (fun _ => ?_) | refine w_al (fun _ => ?_))
        have hstep : La.prj (k + 1) B q f j = La.prj k B q f j + -(f (q k)) * B k j := La.prj_succ
        refine st_ne rfl (fun h3 => ?_) (fun h3 => ?_)
        · have rA2 := hrow.at (U := U5) (M := (b13, .var x3.v, TR) :: (b10, .var x2.v, TR) :: (b2, .var (.agg #[.int .i64 (n : Int), .int .i64 (r : Int), .int .i64 (n : Int), .slice pb (r * n) cb]), TS) :: (D2 ++ (D ++ (Dc2 ++ M)))) sb
          obtain ⟨v4, hv4⟩ := rA2.at hjn
          obtain ⟨x4, rfl, hx4⟩ := (hel.up (U' := U5) kept_q uc) _ _ hv4
          repeat (first | refine run_S ?_ | refine w_box (fun _ => ?_) | refine w_al (fun _ => ?_))
          refine st_drawM [9, 10, 11] [0, 1, 2, 3, 4, 5, 6, 7, 8, 9, 10, 11] sym (by kernel_rfl) ?_
          repeat (first | refine run_S ?_ | refine w_box (fun _ => ?_) | refine w_al (fun _ => ?_))
          refine sl_y (yl_index sym rfl rfl rfl rfl rfl rfl (rA2.lt hv4) (rA2.get _ _ hv4).1) rfl rfl rfl rfl ?_; refine sl_y (yl_loadRs sym rfl rfl rfl rfl rfl rA2 hv4) rfl rfl rfl rfl ?_
          repeat (first | refine run_S ?_ | refine w_box (fun _ => ?_) | refine w_al (fun _ => ?_))
          refine sl_call rfl rfl rfl rfl rfl rfl (fun _ => (qMul_ct (hx2.rep.up uc sb) (hx2.le (sf _ hqn) (by omega)) (hx3.up uc sb) ⟨Nat.le_trans hl3.1 (by omega), Nat.le_trans hl3.2 (by omega)⟩).settle) ?_
          rintro v Uh6 D hU ⟨rfl, _, _, ⟨xh6, rfl, h6, -⟩, -, -, hs⟩
          replace h6 := h6.sett hs
          clear hs
          repeat (first | refine run_S ?_ | refine w_box (fun _ => ?_) | refine w_al (fun _ => ?_))
          refine sl_call rfl rfl rfl rfl rfl rfl (fun _ => (qSub_ct (hx4.rep.up uc sb) (hx4.le (sP k (by omega) j hjn) (by omega)) (h6.rep.up uc sb) (h6.le ((sf _ hqn).mul (sB k j hkr hjn)) (by omega))).settle) ?_
          rintro v Uh7 D hU ⟨rfl, _, _, ⟨xh7, rfl, h7, -⟩, -, -, hs⟩
          replace h7 := h7.sett hs
          clear hs
          repeat (first | refine run_S ?_ | refine w_box (fun _ => ?_) | refine w_al (fun _ => ?_))
          refine w_addr (j := j) hjn (hrow2.some (by omega)) ?_
          refine w_storeR (v := xh7.v) (X := (b13, .var x3.v, TR) :: (b10, .var x2.v, TR) :: (b2, .var (.agg #[.int .i64 (n : Int), .int .i64 (r : Int), .int .i64 (n : Int), .slice pb (r * n) cb]), TS) :: (D ++ (Dc2 ++ M))) hrow2 pms hjn (fun D3 hr3 => ?_)
          refine sl_perm (M' := (b13, .var x3.v, TR) :: (b10, .var x2.v, TR) :: (b2, .var (.agg #[.int .i64 (n : Int), .int .i64 (r : Int), .int .i64 (n : Int), .slice pb (r * n) cb]), TS) :: (D3 ++ (D ++ (Dc2 ++ M)))) ?_ pms
          repeat (first | refine run_S ?_ | refine w_box (fun _ => ?_) | refine w_al (fun _ => ?_))
          refine sk_anti (M' := (b10, .var x2.v, TR) :: (b2, .var (.agg #[.int .i64 (n : Int), .int .i64 (r : Int), .int .i64 (n : Int), .slice pb (r * n) cb]), TS) :: (D3 ++ (D ++ (Dc2 ++ M)))) (ULe.refl _) (List.sublist_cons_self ..) ?_
          exact sk_again (E' := [(49, .int .i64 ((j : Int) + 1)), (48, .int .i64 (n : Int)), (11, .slice P2 n C2), (5, .slice P n C), (10, .pointer (some ⟨b10, 0, none⟩)), (8, .int .i64 (k : Int)), (2, .pointer (some ⟨b2, 0, none⟩)), (29, .int .i64 (k : Int)), (28, .int .i64 (r : Int)), (27, .slice pp r cp), (4, .slice Pc2 ((k + 1 : Nat)) Cc2)]) (m := n - (j + 1)) ⟨rfl, rfl, rfl, rfl, rfl, rfl, rfl, rfl, rfl, rfl, rfl, trivial⟩ (by omega) ⟨j + 1, _, D3, by omega, hr3, set_ok (fun a x ha hne => by
            have h8 : Vq Uh7 x (if a < j then La.prj (k + 1) B q f a else La.prj k B q f a) := (hel2.up (U' := Uh7) kept_q uc) a x ha
            by_cases e : a < j
            · rw [if_pos e] at h8; rw [if_pos (by omega)]; exact h8
            · rw [if_neg e] at h8; rw [if_neg (by omega)]; exact h8) (by
            rw [if_pos (by omega), hstep, La.neg_mul, ← Rat.sub_eq_add_neg]; exact ⟨xh7, rfl, h7⟩), rfl, uc, rfl, rfl⟩
        · have h0 : B k j = 0 := sign_zero.1 h3
          repeat (first | refine run_S ?_ | refine w_box (fun _ => ?_) | refine w_al (fun _ => ?_))
          refine sk_anti (M' := (b10, .var x2.v, TR) :: (b2, .var (.agg #[.int .i64 (n : Int), .int .i64 (r : Int), .int .i64 (n : Int), .slice pb (r * n) cb]), TS) :: (D2 ++ (D ++ (Dc2 ++ M)))) (ULe.refl _) (List.sublist_cons_self ..) ?_
          exact sk_again (E' := [(49, .int .i64 ((j : Int) + 1)), (48, .int .i64 (n : Int)), (11, .slice P2 n C2), (5, .slice P n C), (10, .pointer (some ⟨b10, 0, none⟩)), (8, .int .i64 (k : Int)), (2, .pointer (some ⟨b2, 0, none⟩)), (29, .int .i64 (k : Int)), (28, .int .i64 (r : Int)), (27, .slice pp r cp), (4, .slice Pc2 ((k + 1 : Nat)) Cc2)]) (m := n - (j + 1)) ⟨rfl, rfl, rfl, rfl, rfl, rfl, rfl, rfl, rfl, rfl, rfl, trivial⟩ (by omega) ⟨j + 1, vs2, D2, by omega, hrow2, hel2.congr hrow2.len.1 (fun a ha => by
            by_cases e : a < j
            · rw [if_pos e, if_pos (by omega)]
            · by_cases e2 : a = j
              · rw [if_neg e, if_pos (by omega), e2, hstep, h0, La.mul_zero, La.add_zero]
              · rw [if_neg e, if_neg (by omega)]), rfl, uc, rfl, rfl⟩
      · have e : n = j := by omega
        subst e
        repeat (first | refine run_S ?_ | refine w_box (fun _ => ?_) | refine w_al (fun _ => ?_))
        refine sk_anti (M' := (b2, .var (.agg #[.int .i64 (n : Int), .int .i64 (r : Int), .int .i64 (n : Int), .slice pb (r * n) cb]), TS) :: (D2 ++ (Dc2 ++ M))) (ULe.refl _) ((List.Sublist.cons_cons _ (List.Sublist.append (List.Sublist.refl _) (List.sublist_append_right _ _))).trans (List.sublist_cons_self ..)) ?_
        exact sk_again (E' := [(29, .int .i64 ((k : Int) + 1)), (28, .int .i64 (r : Int)), (27, .slice pp r cp), (5, .slice P2 n C2), (4, .slice Pc2 (k + 1) Cc2), (2, .pointer (some ⟨b2, 0, none⟩))]) (m := r - (k + 1)) ⟨rfl, rfl, rfl, rfl, rfl, rfl, trivial⟩ (by omega) ⟨k + 1, P2, C2, vs2, D2, Pc2, Cc2, _, Dc2, by omega, hrow2, hel2.congr hrow2.len.1 (fun a ha => if_pos ha), hrc2, hec2.up kept_q uc, rfl, uc, rfl, rfl⟩
  · have e : r = k := by omega
    subst e
    repeat (first | refine run_S ?_ | refine w_box (fun _ => ?_) | refine w_al (fun _ => ?_))
    exact sk_ret (D ++ Dc) sym rfl (.cons (.tmp rfl) (.cons (.tmp rfl) .nil)) uc sb (.inl rfl) ⟨_, _, Dc, D, rfl, rfl, ⟨Pc, Cc, cs, rfl, hrc, hec⟩, ⟨P, C, vs, rfl, hrow, hel⟩, uc⟩

end Go.Proofs.YtocjmbilepbokaaGreat

/- Walks of reference 10: validity, spans, coordinates. -/
namespace Go.Proofs.YtocjmbilepbokaaGreat
open Go.Hp
variable {G : World} {U U' : UH} {M M' : MH}

theorem r10Same_ct {r n r' n' : Nat} {va vb : Value} {A B : Nat → Nat → Rat} (ha : Vm Vq r n U va A) (hb : Vm Vq r' n' U vb B) (hr : r ≤ 1000) (hn : n ≤ 1000) (hr' : r' ≤ 1000) (hn' : n' ≤ 1000) :
    Ct Tryz.prog 68 [va, vb] G U M fun v U' D => ∃ s : Bool, v = .bool s ∧ (s = true ↔ r = r' ∧ n = n' ∧ ∀ i j, i < r → j < n → A i j = B i j) ∧ U = U' ∧ D = [] := by
  have h1 : r * n ≤ 1000 * 1000 := Nat.mul_le_mul hr hn
  have h2 : r' * n' ≤ 1000 * 1000 := Nat.mul_le_mul hr' hn'
  obtain ⟨_, rfl, pa, ca, as1, rfl, hca, ra, ea⟩ := ha
  obtain ⟨_, rfl, pb, cb, bs, rfl, hcb, rb, eb⟩ := hb
  refine ct_of_st Tryz.func68 rfl rfl rfl rfl ?_
  repeat (first | refine run_S ?_ | refine w_box (fun _ => ?_) | refine w_al (fun _ => ?_))
  rename_i b2 b3
  refine sl_gdec rfl rfl (fun h => ?_) (fun h3 => ?_)
  · repeat (first | refine run_S ?_ | refine w_box (fun _ => ?_) | refine w_al (fun _ => ?_))
    exact sk_ret [] sym rfl (.cons (.tmp rfl) .nil) uc sb (.inl rfl) ⟨false, rfl, ⟨(fun h => by cases h), fun h4 => absurd (by rw [h4.1]) h⟩, rfl, rfl⟩
  repeat (first | refine run_S ?_ | refine w_box (fun _ => ?_) | refine w_al (fun _ => ?_))
  refine sl_gdec rfl rfl (fun h => ?_) (fun h4 => ?_)
  · repeat (first | refine run_S ?_ | refine w_box (fun _ => ?_) | refine w_al (fun _ => ?_))
    exact sk_ret [] sym rfl (.cons (.tmp rfl) .nil) uc sb (.inl rfl) ⟨false, rfl, ⟨(fun h => by cases h), fun h4 => absurd (by rw [h4.2.1]) h⟩, rfl, rfl⟩
  obtain rfl : r = r' := by omega
  obtain rfl : n = n' := by omega
  repeat (first | refine run_S ?_ | refine w_box (fun _ => ?_) | refine w_al (fun _ => ?_))
  refine st_ne rfl (fun h => absurd rfl h) (fun _ => ?_)
  repeat (first | refine run_S ?_ | refine w_box (fun _ => ?_) | refine w_al (fun _ => ?_))
  refine st_loop (fun z E U' M' => ∃ i : Nat, i ≤ r * n ∧ (∀ k, k < i → fl n A k = fl n B k) ∧ E = [(5, .int .i64 (i : Int)), (2, .pointer (some ⟨b2, 0, none⟩)), (3, .pointer (some ⟨b3, 0, none⟩))] ∧ U = U' ∧ M' = (b3, .var (.agg #[.int .i64 (r : Int), .int .i64 (n : Int), .slice pb (r * n) cb]), TM) :: (b2, .var (.agg #[.int .i64 (r : Int), .int .i64 (n : Int), .slice pa (r * n) ca]), TM) :: M ∧ z = r * n - i) (n0 := r * n)
    (E0 := [(5, .int .i64 ((0 : Nat) : Int)), (2, .pointer (some ⟨b2, 0, none⟩)), (3, .pointer (some ⟨b3, 0, none⟩))]) ⟨rfl, rfl, rfl, trivial⟩ ⟨0, by omega, (fun k hk => absurd hk (Nat.not_lt_zero k)), rfl, rfl, rfl, rfl⟩ ?_
  rintro z E U1 M' ⟨i, hi, hk, rfl, rfl, rfl, rfl⟩
  try refine run_s ?_
  refine st_dec rfl (fun h => ?_) (fun h => ?_)
  · have hin : i < r * n := by omega
    have ra2 := ra.up (U' := U) (M' := (b3, .var (.agg #[.int .i64 (r : Int), .int .i64 (n : Int), .slice pb (r * n) cb]), TM) :: (b2, .var (.agg #[.int .i64 (r : Int), .int .i64 (n : Int), .slice pa (r * n) ca]), TM) :: M) uc (List.nil_sublist _)
    have rb2 := rb.up (U' := U) (M' := (b3, .var (.agg #[.int .i64 (r : Int), .int .i64 (n : Int), .slice pb (r * n) cb]), TM) :: (b2, .var (.agg #[.int .i64 (r : Int), .int .i64 (n : Int), .slice pa (r * n) ca]), TM) :: M) uc (List.nil_sublist _)
    obtain ⟨v1, hv1⟩ := ra2.at hin
    obtain ⟨x1, rfl, hx1⟩ := ea _ _ hv1
    obtain ⟨v2, hv2⟩ := rb2.at hin
    obtain ⟨x2, rfl, hx2⟩ := eb _ _ hv2
    try refine run_s ?_
    refine st_draw [0, 1, 2, 3, 4, 5, 6, 7, 8, 9, 10, 11] sym (by kernel_rfl) ?_
    try refine run_s ?_
    refine sl_y (yl_index sym rfl rfl rfl rfl rfl rfl (ra2.lt hv1) (ra2.get _ _ hv1).1) rfl rfl rfl rfl ?_; refine sl_y (yl_loadRs sym rfl rfl rfl rfl rfl ra2 hv1) rfl rfl rfl rfl ?_
    try refine run_s ?_
    refine sl_y (yl_index sym rfl rfl rfl rfl rfl rfl (rb2.lt hv2) (rb2.get _ _ hv2).1) rfl rfl rfl rfl ?_; refine sl_y (yl_loadRs sym rfl rfl rfl rfl rfl rb2 hv2) rfl rfl rfl rfl ?_
    try refine run_s ?_
    refine sl_call rfl rfl rfl rfl rfl rfl (fun _ => rqSame_ct (hx1.up uc sb) (hx2.up uc sb)) ?_
    rintro v U' D hU ⟨rfl, rfl, rfl⟩
    repeat (first | refine run_S ?_ | refine w_box (fun _ => ?_) | refine w_al (fun _ => ?_))
    by_cases e : fl n A i = fl n B i
    · rw [decide_eq_true e]
      repeat (first | refine run_S ?_ | refine w_box (fun _ => ?_) | refine w_al (fun _ => ?_))
      exact sk_again (E' := [(5, .int .i64 ((i : Int) + 1)), (2, .pointer (some ⟨b2, 0, none⟩)), (3, .pointer (some ⟨b3, 0, none⟩))]) (m := r * n - (i + 1)) ⟨rfl, rfl, rfl, trivial⟩ (by omega) ⟨i + 1, by omega, (fun k hk' => by
        rcases Nat.lt_or_eq_of_le (Nat.le_of_lt_succ hk') with h5 | h5
        · exact hk k h5
        · rw [h5]; exact e), rfl, rfl, rfl, rfl⟩
    · rw [decide_eq_false e]
      repeat (first | refine run_S ?_ | refine w_box (fun _ => ?_) | refine w_al (fun _ => ?_))
      exact sk_ret [] sym rfl (.cons (.tmp rfl) .nil) uc sb (.inl rfl) ⟨false, rfl, ⟨(fun h => by cases h), fun h4 => absurd (h4.2.2 _ _ (fl_lt hin).1 (fl_lt hin).2) e⟩, rfl, rfl⟩
  · have e : r * n = i := by omega
    subst e
    repeat (first | refine run_S ?_ | refine w_box (fun _ => ?_) | refine w_al (fun _ => ?_))
    exact sk_ret [] sym rfl (.cons (.tmp rfl) .nil) uc sb (.inl rfl) ⟨true, rfl, ⟨fun _ => ⟨rfl, rfl, fun i j hi hj => by
      have := hk _ (ij_lt hi hj)
      rwa [fl_at hj, fl_at hj] at this⟩, fun _ => rfl⟩, rfl, rfl⟩

/-- Validity of what may be a subspace. -/
theorem r10Valid_ct {r n cc : Nat} {d : Int} {p : Option Addr} {B : Nat → Nat → Rat} (hm : Vm (Wq 1) r n U (.agg #[.int .i64 (r : Int), .int .i64 (n : Int), .slice p (r * n) cc]) B) (hr : r ≤ 6) (hn : n ≤ 6) :
    Ct Tryz.prog 21 [.agg #[.int .i64 d, .int .i64 (r : Int), .int .i64 (n : Int), .slice p (r * n) cc]] G U M fun v _ D => D = [] ∧ ∃ s : Bool, v = .bool s ∧ (s = true ↔ d = (n : Int) ∧ ∃ q, La.Ech r n B q) := by
  have hrn : r * n ≤ 6 * 6 := Nat.mul_le_mul hr hn
  have hg := gro_six (b := 1) (by decide)
  have hg2 := La.gro_le (k := 1) hr
  refine ct_of_st Tryz.func21 rfl rfl rfl rfl ?_
  repeat (first | refine run_S ?_ | refine w_box (fun _ => ?_) | refine w_al (fun _ => ?_))
  rename_i b1
  refine sl_call rfl rfl rfl rfl rfl rfl (fun _ => m9Valid_ct (r := (r : Int)) (c := (n : Int)) (n := r * n) (p := p) (cc := cc) (by omega)) ?_
  rintro v U' D hU ⟨rfl, rfl, rfl⟩
  repeat (first | refine run_S ?_ | refine w_box (fun _ => ?_) | refine w_al (fun _ => ?_))
  rw [decide_eq_true (vld_of (by omega) (by omega))]
  repeat (first | refine run_S ?_ | refine w_box (fun _ => ?_) | refine w_al (fun _ => ?_))
  refine st_ne rfl (fun h => ?_) (fun h1 => ?_)
  · repeat (first | refine run_S ?_ | refine w_box (fun _ => ?_) | refine w_al (fun _ => ?_))
    exact sk_ret [] sym rfl (.cons (.tmp rfl) .nil) uc sb (.inl rfl) ⟨rfl, false, rfl, ⟨(fun h => by cases h), fun h2 => absurd h2.1.symm h⟩⟩
  obtain rfl : d = (n : Int) := by omega
  repeat (first | refine run_S ?_ | refine w_box (fun _ => ?_) | refine w_al (fun _ => ?_))
  refine sl_call rfl rfl rfl rfl rfl rfl (fun _ => m9Echelon_ct (kept_m kept_w _ _ _ _ uc hm) (Nat.le_refl 1) (by omega) (by omega) (by omega)) ?_
  rintro v1 U1 D1 hU1 ⟨r1, R, q, vR, vp, rfl, hR, hp, rfl, hE, -⟩
  try rw [List.nil_append]
  have hr1 := Nat.le_trans hE.ech.le_n hn
  obtain ⟨_, rfl, pR, cR, Rs, rfl, -⟩ := id hR
  obtain ⟨pp, cp, ps, rfl, -⟩ := id hp
  repeat (first | refine run_S ?_ | refine w_box (fun _ => ?_) | refine w_al (fun _ => ?_))
  refine st_draw [0, 1, 2, 3, 4, 5, 6, 7, 8] sym (by kernel_rfl) ?_
  repeat (first | refine run_S ?_ | refine w_box (fun _ => ?_) | refine w_al (fun _ => ?_))
  refine sl_call rfl rfl rfl rfl rfl rfl (fun _ => ct_setg (m9Rows_co (kept_m kept_w _ _ _ _ uc hm) (by omega) (by omega) (by omega) (by omega))) ?_
  rintro v2 U2 D2 hU2 ⟨h2, rfl⟩
  try rw [List.nil_append]
  obtain ⟨p2, c2, s2, rfl, -⟩ := id h2
  repeat (first | refine run_S ?_ | refine w_box (fun _ => ?_) | refine w_al (fun _ => ?_))
  refine sl_call rfl rfl rfl rfl rfl rfl (fun _ => ct_setm (m9Of_ct (b := 1) (Ls.toWr (h2.up kept_r uc (List.nil_sublist _)) fun i j hi hj => hm.sz (Nat.le_refl 1) hi hj) (by omega) (by omega) (by omega) (by omega))) ?_
  rintro vh3 Uh3 D hU ⟨h3, rfl⟩
  rw [List.nil_append]
  repeat (first | refine run_S ?_ | refine w_box (fun _ => ?_) | refine w_al (fun _ => ?_))
  obtain ⟨_, rfl, p3, c3, s3, rfl, -⟩ := id h3
  repeat (first | refine run_S ?_ | refine w_box (fun _ => ?_) | refine w_al (fun _ => ?_))
  refine sl_call rfl rfl rfl rfl rfl rfl (fun _ => r10Same_ct (kept_m kept_q _ _ _ _ uc hR) (kept_m kept_q _ _ _ _ uc h3) (by omega) (by omega) (by omega) (by omega)) ?_
  rintro v4 U4 D4 hU4 ⟨s, rfl, hs, rfl, rfl⟩
  try rw [List.nil_append]
  repeat (first | refine run_S ?_ | refine w_box (fun _ => ?_) | refine w_al (fun _ => ?_))
  refine sk_ret [] sym rfl (.cons (.tmp rfl) .nil) uc sb (.inl rfl) ⟨rfl, s, rfl, ⟨fun h => ⟨rfl, q, ?_⟩, fun h => hs.2 ?_⟩⟩
  · obtain ⟨rfl, -, e⟩ := hs.1 h
    exact ⟨hE.ech.lt, hE.ech.mono, fun i k hi hk => by rw [← e i _ hi (hE.ech.lt k hk)]; exact hE.ech.one i k hi hk, fun i j hi hj => by rw [← e i j hi (Nat.lt_trans hj (hE.ech.lt i hi))]; exact hE.ech.zero i j hi hj⟩
  · obtain ⟨-, q', hq⟩ := h
    obtain ⟨e1, -, e3⟩ := hE.ech.unique hq hE.same
    exact ⟨e1, rfl, e3⟩

end Go.Proofs.YtocjmbilepbokaaGreat
