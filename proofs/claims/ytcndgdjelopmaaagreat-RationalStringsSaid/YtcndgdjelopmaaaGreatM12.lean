/- Texts of this seat's own, merged: each begins with its own remark. -/
import Derived.Test.YtcndgdjelopmaaaGreatM18
import Derived.Test.YtcndgdjelopmaaaGreatM6
import Derived.Test.YtcndgdjelopmaaaGreatM11
/- The plain law of decimal forms: which strings are one, and of which integer. -/
namespace Go.Proofs.YtcndgdjelopmaaaGreat
open Go.Hp

def body (s : List Nat) : List Nat := if s.head? = some 45 then s.tail else s
def dv (s : List Nat) : Nat := s.foldl (fun v c => v * 10 + (c - 48)) 0
def pv (s : List Nat) : Int := sg (decide (s.head? = some 45)) (dv (body s))
/-- A decimal form as Format writes it. -/
def Good (s : List Nat) : Prop := body s ≠ [] ∧ ¬ ((body s).head? = some 48 ∧ s ≠ [48]) ∧ ∀ c ∈ body s, 48 ≤ c ∧ c ≤ 57

theorem dv_snoc (s : List Nat) (c : Nat) : dv (s ++ [c]) = dv s * 10 + (c - 48) := by simp [dv, List.foldl_append]
theorem dv_rev (l : List Nat) : dv l.reverse = dval (l.map (· - 48)) := by
  induction l with
  | nil => rfl
  | cons c l ih => rw [List.reverse_cons, dv_snoc, ih, List.map_cons, dval]; omega
theorem dv_lt (s : List Nat) (h : ∀ c ∈ s, c ≤ 57) : dv s < 10 ^ s.length := by
  have key : ∀ l : List Nat, (∀ c ∈ l, c ≤ 57) → dval (l.map (· - 48)) < 10 ^ l.length := by
    intro l
    induction l with
    | nil => intro _; simp [dval]
    | cons c l ih =>
      intro hc
      have h1 := hc c (List.mem_cons_self ..)
      have h2 := ih fun d hd => hc d (List.mem_cons_of_mem _ hd)
      rw [List.map_cons, dval, List.length_cons, Nat.pow_succ]
      omega
  have h1 := key s.reverse (fun c hc => h c (List.mem_reverse.1 hc))
  rwa [← dv_rev, List.reverse_reverse, List.length_reverse] at h1

theorem dl_last : ∀ n : Nat, n ≠ 0 → ∃ r d, dl n = r ++ [d] ∧ d ≠ 0 := by
  intro n
  induction n using Nat.strongRecOn with
  | ind n ih =>
    intro h0
    by_cases h : n < 10
    · exact ⟨[], n, by rw [dl_small h]; rfl, h0⟩
    · obtain ⟨r, d, h1, h2⟩ := ih (n / 10) (by omega) (by omega)
      exact ⟨n % 10 :: r, d, by rw [dl_step h, h1]; rfl, h2⟩

theorem map48 (l : List Nat) : (l.map (48 + ·)).map (· - 48) = l := by
  rw [List.map_map]
  conv => rhs; rw [← List.map_id l]
  refine List.map_congr_left fun c _ => ?_
  simp
theorem map48' {l : List Nat} (h : ∀ c ∈ l, 48 ≤ c) : (l.map (· - 48)).map (48 + ·) = l := by
  rw [List.map_map]
  conv => rhs; rw [← List.map_id l]
  refine List.map_congr_left fun c hc => ?_
  have := h c hc
  simp only [Function.comp, id]; omega

theorem fmt_body (z : Int) : body (fmt z) = ((dl z.natAbs).map (48 + ·)).reverse ∧ ((fmt z).head? = some 45 ↔ z < 0) := by
  obtain ⟨h1, -, h3⟩ := dl_spec z.natAbs
  have hne : ((dl z.natAbs).map (48 + ·)).reverse.head? ≠ some 45 := by
    intro e
    have := List.mem_of_mem_head? e
    obtain ⟨d, _, hd⟩ := List.mem_map.1 (List.mem_reverse.1 this)
    omega
  unfold fmt body
  by_cases hz : z < 0
  · simp [hz]
  · rw [if_neg hz, List.nil_append, if_neg hne]
    exact ⟨rfl, fun h => absurd h hne, fun h => absurd h hz⟩

theorem fmt_good (z : Int) : Good (fmt z) ∧ pv (fmt z) = z := by
  obtain ⟨h1, h2, h3⟩ := dl_spec z.natAbs
  obtain ⟨hb, hh⟩ := fmt_body z
  have hv : dv (body (fmt z)) = z.natAbs := by rw [hb, dv_rev, map48, h2]
  refine ⟨⟨?_, ?_, ?_⟩, ?_⟩
  · rw [hb]
    intro e
    rw [List.reverse_eq_nil_iff, List.map_eq_nil_iff] at e
    exact h3 e
  · rintro ⟨e1, e2⟩
    by_cases hz : z.natAbs = 0
    · have : z = 0 := by omega
      subst this
      exact e2 fmt_zero
    · obtain ⟨r, d, e3, e4⟩ := dl_last _ hz
      rw [hb, e3] at e1
      simp at e1
      omega
  · intro c hc
    rw [hb] at hc
    obtain ⟨d, hd, rfl⟩ := List.mem_map.1 (List.mem_reverse.1 hc)
    have := h1 d hd
    omega
  · unfold pv
    rw [hv]
    unfold sg
    by_cases hz : z < 0
    · rw [decide_eq_true (hh.2 hz)]; simp; omega
    · rw [decide_eq_false (fun h => hz (hh.1 h))]; simp; omega

theorem good_fmt {s : List Nat} (h : Good s) : fmt (pv s) = s := by
  obtain ⟨h1, h2, h3⟩ := h
  have hs : s = (if s.head? = some 45 then [45] else []) ++ body s := by
    unfold body
    cases s with
    | nil => simp
    | cons a r =>
      by_cases ha : a = 45
      · subst ha; simp
      · simp [ha]
  obtain ⟨a, r, hb⟩ := List.exists_cons_of_ne_nil h1
  obtain ⟨L, hL⟩ : ∃ L, L = ((body s).map (· - 48)).reverse := ⟨_, rfl⟩
  have hbL : body s = (L.map (48 + ·)).reverse := by
    rw [hL, List.map_reverse, List.reverse_reverse, map48' fun c hc => (h3 c hc).1]
  have hvL : dv (body s) = dval L := by rw [hbL, dv_rev, map48]
  have hL10 : ∀ d ∈ L, d < 10 := by
    intro d hd
    rw [hL, List.mem_reverse] at hd
    obtain ⟨c, hc, rfl⟩ := List.mem_map.1 hd
    have := h3 c hc
    omega
  have hLa : L = (r.map (· - 48)).reverse ++ [a - 48] := by rw [hL, hb]; simp
  have ha := h3 a (by rw [hb]; exact List.mem_cons_self ..)
  by_cases hz : dv (body s) = 0
  · have h0 : a - 48 = 0 := by
      rw [hvL] at hz
      exact dval_zero hz _ (by rw [hLa]; simp)
    have ha48 : a = 48 := by omega
    have hs48 : s = [48] := by
      by_cases e : s = [48]
      · exact e
      · exact absurd ⟨by rw [hb, ha48]; rfl, e⟩ h2
    rw [hs48]
    have : pv [48] = 0 := by decide
    rw [this, fmt_zero]
  · have hd0 : a - 48 ≠ 0 := fun e => by
      have ha48 : a = 48 := by omega
      have hs48 : s = [48] := by
        by_cases e : s = [48]
        · exact e
        · exact absurd ⟨by rw [hb, ha48]; rfl, e⟩ h2
      rw [hs48] at hz
      exact hz (by decide)
    have hdl := dl_of (l := (r.map (· - 48)).reverse) (d := a - 48) (by rw [← hLa]; exact hL10) hd0
    rw [← hLa, ← hvL] at hdl
    have e1 : (pv s).natAbs = dv (body s) := by unfold pv sg; split <;> omega
    have e2 : pv s < 0 ↔ s.head? = some 45 := by
      unfold pv sg
      by_cases h : s.head? = some 45
      · simp [h]; omega
      · simp [h]
    conv => rhs; rw [hs]
    unfold fmt
    rw [e1, ← hdl, ← hbL]
    congr 1
    by_cases h : s.head? = some 45
    · rw [if_pos h, if_pos (e2.2 h)]
    · rw [if_neg h, if_neg fun h' => h (e2.1 h')]

end Go.Proofs.YtcndgdjelopmaaaGreat

/- Walks of the library: strings.CutPrefix at the sign. -/
namespace Go.Proofs.YtcndgdjelopmaaaGreat
open Go.Hp
variable {G : World} {U : UH} {M : MH}

theorem bstr_sign : (⟨#[45]⟩ : ByteArray) = bstr [45] := rfl

theorem HasPrefix_ct {s : List Nat} (hs : ∀ c ∈ s, c < 256) (hn : s.length ≤ 9223372036854775807) :
    Ct Tryz.prog 89 [.string (bstr s), .string ⟨#[45]⟩] G U M fun v U' D => v = .bool (decide (s.head? = some 45)) ∧ U = U' ∧ D = [] := by
  rw [bstr_sign]
  refine ct_of_st Tryz.func89 rfl rfl rfl rfl ?_
  try refine run_s ?_
  refine sl_gdec rfl rfl (fun h1 => ?_) (fun h1 => ?_)
  · rw [bstr_size] at h1
    obtain ⟨a, r, rfl⟩ : ∃ a r, s = a :: r := List.exists_cons_of_ne_nil (fun e => by subst e; simp [bstr_size] at h1)
    try refine run_s ?_
    refine sl_y (yl_strTo (s := a :: r) (k := 1) sym rfl rfl rfl rfl rfl rfl (by simp)) rfl rfl rfl rfl ?_
    try refine run_s ?_
    by_cases ha : a = 45
    · subst ha
      refine sl_y (yl_streq rfl rfl rfl rfl) rfl rfl rfl rfl ?_
      try refine run_s ?_
      exact sk_ret [] sym rfl (.cons (.tmp rfl) .nil) (ULe.refl _) (List.Sublist.refl _) (.inl rfl) ⟨rfl, rfl, rfl⟩
    · refine sl_y (yl_streq' rfl rfl rfl (fun e => ha (by simpa using bstr_inj (fun c hc => hs c (List.mem_of_mem_take hc)) (by simp) e))) rfl rfl rfl rfl ?_
      try refine run_s ?_
      exact sk_ret [] sym rfl (.cons (.tmp rfl) .nil) (ULe.refl _) (List.Sublist.refl _) (.inl rfl) ⟨by simp [ha, tup], rfl, rfl⟩
  · rw [bstr_size] at h1
    have hs0 : s = [] := List.eq_nil_of_length_eq_zero (by simp [bstr_size] at h1; omega)
    subst hs0
    try refine run_s ?_
    exact sk_ret [] sym rfl (.cons (.tmp rfl) .nil) (ULe.refl _) (List.Sublist.refl _) (.inl rfl) ⟨rfl, rfl, rfl⟩

theorem iCutPrefix_ct {s : List Nat} (hs : ∀ c ∈ s, c < 256) (hn : s.length ≤ 9223372036854775807) :
    Ct Tryz.prog 69 [.string (bstr s), .string ⟨#[45]⟩] G U M fun v U' D => v = .tuple #[.string (bstr (body s)), .bool (decide (s.head? = some 45))] ∧ U = U' ∧ D = [] := by
  refine ct_of_st Tryz.func69 rfl rfl rfl rfl ?_
  try refine run_s ?_
  refine sl_call rfl rfl rfl rfl rfl rfl (fun _ => HasPrefix_ct hs hn) ?_
  rintro v U' D hU ⟨rfl, rfl, rfl⟩
  by_cases h : s.head? = some 45
  · rw [decide_eq_true h]
    try refine run_s ?_
    obtain ⟨a, r, rfl⟩ : ∃ a r, s = a :: r := List.exists_cons_of_ne_nil (fun e => by subst e; simp at h)
    refine sl_y (yl_strFrom (k := 1) sym rfl rfl rfl rfl rfl rfl (by simp)) rfl rfl rfl rfl ?_
    try refine run_s ?_
    exact sk_ret [] sym rfl (.cons (.tmp rfl) (.cons (.tmp rfl) .nil)) (ULe.refl _) (List.Sublist.refl _) (.inl rfl) ⟨by unfold body; rw [if_pos h]; rfl, rfl, rfl⟩
  · rw [decide_eq_false h]
    try refine run_s ?_
    exact sk_ret [] sym rfl (.cons (.tmp rfl) (.cons (.tmp rfl) .nil)) (ULe.refl _) (List.Sublist.refl _) (.inl rfl) ⟨by unfold body; rw [if_neg h]; rfl, rfl, rfl⟩

theorem CutPrefix_ct {s : List Nat} (hs : ∀ c ∈ s, c < 256) (hn : s.length ≤ 9223372036854775807) :
    Ct Tryz.prog 44 [.string (bstr s), .string ⟨#[45]⟩] G U M fun v U' D => v = .tuple #[.string (bstr (body s)), .bool (decide (s.head? = some 45))] ∧ U = U' ∧ D = [] := by
  refine ct_of_st Tryz.func44 rfl rfl rfl rfl ?_
  try refine run_s ?_
  refine sl_call rfl rfl rfl rfl rfl rfl (fun _ => iCutPrefix_ct hs hn) ?_
  rintro v U' D hU ⟨rfl, rfl, rfl⟩
  try refine run_s ?_
  exact sk_ret [] sym rfl (.cons (.tmp rfl) (.cons (.tmp rfl) .nil)) (ULe.refl _) (List.Sublist.refl _) (.inl rfl) ⟨rfl, rfl, rfl⟩

end Go.Proofs.YtcndgdjelopmaaaGreat

/- Walks of bigint: the integer with a decimal form. -/
namespace Go.Proofs.YtcndgdjelopmaaaGreat
open Go.Hp
variable {G : World} {U : UH} {M : MH}

theorem parse_step {r o : List Nat} {i cy x c0 : Nat} (hi : i < r.length) (hx : r[i]? = some x) (hd : r.drop i = o.drop i)
    (hv : val (r.take i) + 4294967296 ^ i * cy = 10 * val (o.take i) + c0) :
    (r.set i ((x * 10 + cy) % 4294967296)).drop (i + 1) = o.drop (i + 1) ∧
    val ((r.set i ((x * 10 + cy) % 4294967296)).take (i + 1)) + 4294967296 ^ (i + 1) * ((x * 10 + cy) / 4294967296) = 10 * val (o.take (i + 1)) + c0 := by
  have ho : o[i]? = some x := by
    have h1 := congrArg (fun l => l[0]?) hd
    simp only [List.getElem?_drop, Nat.add_zero] at h1
    rw [← h1]; exact hx
  constructor
  · rw [List.drop_set_of_lt (Nat.lt_succ_self i)]
    have := congrArg (List.drop 1) hd
    simpa only [List.drop_drop] using this
  · rw [List.take_add_one, List.getElem?_set_self hi, List.take_set_of_le (Nat.le_refl i), Option.toList_some, val_snoc, List.take_add_one, ho, Option.toList_some, val_snoc]
    have hlo : i < o.length := (List.getElem?_eq_some_iff.1 ho).1
    rw [List.length_take, List.length_take, Nat.min_eq_left (by omega), Nat.min_eq_left (by omega), Nat.pow_succ]
    have e := Nat.mod_add_div (x * 10 + cy) 4294967296
    generalize (x * 10 + cy) % 4294967296 = a at *
    generalize (x * 10 + cy) / 4294967296 = b at *
    generalize 4294967296 ^ i = W at *
    have : W * a + W * 4294967296 * b = W * (x * 10 + cy) := by rw [← e]; grind
    grind

theorem Parse_ct {s : List Nat} (hs : ∀ c ∈ s, c < 256) (hn : s.length ≤ 1000000000) :
    Ct Tryz.prog 21 [.string (bstr s)] G U M fun v U' D => ∃ (r : IV) (e : Int), v = .tuple #[r.v, .int .i64 e] ∧ (Good s → e = 0 ∧ r.own D (pv s)) ∧ (¬ Good s → e = 19 ∧ r = zeroIV ∧ D = []) ∧ ULe U U' := by
  have hUc := ULe.refl U
  have hbs : ∀ c ∈ body s, c < 256 := fun c hc => by
    unfold body at hc
    split at hc
    · exact hs c (List.mem_of_mem_tail hc)
    · exact hs c hc
  have hbn : (body s).length ≤ 1000000000 := by
    unfold body
    split
    · rw [List.length_tail]; omega
    · exact hn
  refine ct_of_st Tryz.func21 rfl rfl rfl rfl ?_
  repeat (first | refine run_S ?_ | refine w_box (fun _ => ?_) | refine w_al (fun _ => ?_))
  rename_i b2
  refine sl_call rfl rfl rfl rfl rfl rfl (fun _ => CutPrefix_ct hs (by omega)) ?_
  rintro v U' D hU ⟨rfl, rfl, rfl⟩
  try refine run_o ?_
  refine st_seq_cut (fun E U' M' => body s ≠ [] ∧ ¬ ((body s).head? = some 48 ∧ s ≠ [48]) ∧ E = (4, .string (bstr (body s))) :: (5, .bool (decide (s.head? = some 45))) :: (0, .string (bstr s)) :: [(2, .pointer (some ⟨b2, 0, none⟩))] ∧ U = U' ∧ M' = (b2, .var (.agg #[.bool false, .slice none 0 0]), 24) :: M) ?_ ?_
  · try refine run_s ?_
    by_cases h0 : body s = []
    · have hbad : ¬ Good s := fun h => h.1 h0
      rw [h0]
      refine sl_y (yl_streq rfl rfl rfl rfl) rfl rfl rfl rfl ?_
      repeat (first | refine run_S ?_ | refine w_box (fun _ => ?_) | refine w_al (fun _ => ?_))
      exact sk_ret [] sym rfl (.cons (.cell 0 rfl rfl rfl) (.cons (.tmp rfl) .nil)) hUc sb (.inl rfl) ⟨zeroIV, 19, rfl, fun h => absurd h hbad, fun _ => ⟨rfl, rfl, rfl⟩, hUc⟩
    · obtain ⟨a, r, hb⟩ := List.exists_cons_of_ne_nil h0
      have ha := hbs a (by rw [hb]; exact List.mem_cons_self ..)
      rw [hb]
      refine sl_y (yl_streq' rfl rfl rfl (fun e => by have := bstr_inj (b := []) (by rw [← hb]; exact hbs) (fun c hc => by cases hc) e; cases this)) rfl rfl rfl rfl ?_
      try refine run_s ?_
      refine sl_y (yl_strAt (s := a :: r) (k := 0) sym rfl rfl rfl rfl rfl rfl rfl ha) rfl rfl rfl rfl ?_
      try refine run_s ?_
      refine sl_gdec rfl rfl (fun h1 => ?_) (fun h1 => ?_)
      · have ha48 : a = 48 := by omega
        try refine run_s ?_
        by_cases h2 : s = [48]
        · refine sl_y (yl_strne rfl rfl rfl (by rw [h2]; rfl)) rfl rfl rfl rfl ?_
          try refine run_s ?_
          exact sk_cut (E' := (4, .string (bstr (a :: r))) :: (5, .bool (decide (s.head? = some 45))) :: (0, .string (bstr s)) :: [(2, .pointer (some ⟨b2, 0, none⟩))]) ⟨rfl, rfl, rfl, rfl, trivial⟩ ⟨by simp, fun h => h.2 h2, rfl, rfl, rfl⟩
        · have hbad : ¬ Good s := fun h => h.2.1 ⟨by rw [hb, ha48]; rfl, h2⟩
          refine sl_y (yl_strne' rfl rfl rfl (fun e => h2 (bstr_inj (b := [48]) hs (by simp) e))) rfl rfl rfl rfl ?_
          repeat (first | refine run_S ?_ | refine w_box (fun _ => ?_) | refine w_al (fun _ => ?_))
          exact sk_ret [] sym rfl (.cons (.cell 0 rfl rfl rfl) (.cons (.tmp rfl) .nil)) hUc sb (.inl rfl) ⟨zeroIV, 19, rfl, fun h => absurd h hbad, fun _ => ⟨rfl, rfl, rfl⟩, hUc⟩
      · try refine run_s ?_
        exact sk_cut (E' := (4, .string (bstr (a :: r))) :: (5, .bool (decide (s.head? = some 45))) :: (0, .string (bstr s)) :: [(2, .pointer (some ⟨b2, 0, none⟩))]) ⟨rfl, rfl, rfl, rfl, trivial⟩ ⟨by simp, fun h => h1 (by have := h.1; simp at this; omega), rfl, rfl, rfl⟩
  · rintro E U' M' ⟨hb0, hb1, rfl, rfl, rfl⟩
    try refine run_s ?_
    have e1 : IntKind.i64.wrap (IntKind.i64.wrap ((((bstr (body s)).size : Nat) : Int).tdiv 9) + 1) = (((body s).length / 9 + 1 : Nat) : Int) := by
      rw [bstr_size, Int.tdiv_eq_ediv_of_nonneg (by omega), wrap_in (k := .i64) (n := ((body s).length : Int) / 9) (by omega) (by simp only [kmax]; omega), wrap_in (by omega) (by simp only [kmax]; omega)]; omega
    refine sl_make (m := 0) (n := (body s).length / 9 + 1) sym rfl rfl rfl rfl rfl rfl e1 rfl rfl (by omega) (by omega) (by omega) rfl rfl rfl rfl (fun bm => ?_)
    rw [dg_rep]
    have ho0 := Own.row (b := bm) (n := 0) (c := (body s).length / 9 + 1) (r := List.replicate ((body s).length / 9 + 1) 0) (by omega) (by simp) (by omega) (bd_rep _)
    rw [List.take_zero] at ho0
    try refine run_s ?_
    refine sl_bytes (r := body s) sym rfl rfl hbs rfl rfl rfl rfl rfl rfl rfl rfl (fun U1 bb cb hU1 hcell => ?_)
    replace hUc := hUc.trans hU1
    try refine run_s ?_
    refine st_loop (fun m E U' M' => ∃ (k : Nat) (pm : Option Addr) (nm cm : Nat) (lm : List Nat) (D X : MH), k ≤ (body s).length ∧ (∀ c ∈ (body s).take k, 48 ≤ c ∧ c ≤ 57) ∧ Own D pm nm cm lm ∧ nm ≤ k ∧ val lm = dv ((body s).take k) ∧
        E = (38, .int .i64 (k : Int)) :: (6, .slice pm nm cm) :: (36, .slice (some ⟨bb, 0, none⟩) (body s).length cb) :: (37, .int .i64 ((body s).length : Int)) :: (5, .bool (decide (s.head? = some 45))) :: (2, .pointer (some ⟨b2, 0, none⟩)) :: [] ∧ U1 = U' ∧ M' = D ++ ((b2, .var (.agg #[.bool false, .slice none 0 0]), 24) :: X) ∧ M.Sublist X ∧ m = (body s).length - k) (n0 := (body s).length)
      (E0 := (38, .int .i64 ((0 : Nat) : Int)) :: (6, .slice (some ⟨bm, 0, none⟩) 0 ((body s).length / 9 + 1)) :: (36, .slice (some ⟨bb, 0, none⟩) (body s).length cb) :: (37, .int .i64 ((body s).length : Int)) :: (5, .bool (decide (s.head? = some 45))) :: (2, .pointer (some ⟨b2, 0, none⟩)) :: []) ⟨rfl, rfl, rfl, rfl, rfl, rfl, trivial⟩
      ⟨0, _, 0, _, [], _, M, by omega, (fun c hc => by simp at hc), ho0, by omega, rfl, rfl, rfl, rfl, List.Sublist.refl _, rfl⟩ ?_
    clear ho0 e1
    rintro m E U' M' ⟨k, pm, nm, cm, lm, D, X, hk, hdg, ho, hnm, hv, rfl, rfl, rfl, hX, rfl⟩
    have hol := ho.len
    try refine run_s ?_
    refine st_dec rfl (fun h5 => ?_) (fun h5 => ?_)
    · have hlt : k < (body s).length := by omega
      obtain ⟨c, hc⟩ : ∃ c, (body s)[k]? = some c := ⟨_, List.getElem?_eq_getElem hlt⟩
      have hcm := List.mem_of_getElem? hc
      have hc256 := hbs c hcm
      try refine run_s ?_
      refine sl_y (yl_indexM (j := k) sym rfl rfl rfl rfl rfl rfl (by omega)) rfl rfl rfl rfl ?_
      try refine run_s ?_
      refine sl_y (yl_loadH sym rfl rfl rfl rfl (v := .int .u8 (c : Int)) (fun G w hw => by simpa using hw.cellU (hcell k c hc))) rfl rfl rfl rfl ?_
      try refine run_s ?_
      refine sl_gdec rfl rfl (fun h6 => ?_) (fun h6 => ?_)
      · have hbad : ¬ Good s := fun h => by have := (h.2.2 c hcm).1; omega
        refine sl_perm ?_ (perm1 (D := D))
        repeat (first | refine run_S ?_ | refine w_box (fun _ => ?_) | refine w_al (fun _ => ?_))
        exact sk_ret [] sym rfl (.cons (.cell 0 rfl rfl rfl) (.cons (.tmp rfl) .nil)) hUc (.cons _ (sub_r hX)) (.inl rfl) ⟨zeroIV, 19, rfl, fun h => absurd h hbad, fun _ => ⟨rfl, rfl, rfl⟩, hUc⟩
      try refine run_s ?_
      refine st_dec rfl (fun h7 => ?_) (fun h7 => ?_)
      · have hbad : ¬ Good s := fun h => by have := (h.2.2 c hcm).2; omega
        refine st_perm (perm1 (D := D)) ?_
        repeat (first | refine run_S ?_ | refine w_box (fun _ => ?_) | refine w_al (fun _ => ?_))
        exact sk_ret [] sym rfl (.cons (.cell 0 rfl rfl rfl) (.cons (.tmp rfl) .nil)) hUc (.cons _ (sub_r hX)) (.inl rfl) ⟨zeroIV, 19, rfl, fun h => absurd h hbad, fun _ => ⟨rfl, rfl, rfl⟩, hUc⟩
      have hdg2 : ∀ e ∈ (body s).take (k + 1), 48 ≤ e ∧ e ≤ 57 := fun e he => by
        rw [List.take_add_one, hc] at he
        rcases List.mem_append.1 he with h | h
        · exact hdg e h
        · rw [List.mem_singleton.1 h]; omega
      have hdv : dv ((body s).take (k + 1)) = dv ((body s).take k) * 10 + (c - 48) := by
        rw [List.take_add_one, hc, Option.toList_some, dv_snoc]
      have e8 : IntKind.u64.wrap (IntKind.u8.wrap ((c : Int) - 48)) = ((c - 48 : Nat) : Int) := by
        rw [wrap_in (k := .u8) (n := (c : Int) - 48) (by omega) (by simp only [kmax]; omega), wrap_in (by omega) (by simp only [kmax]; omega)]; omega
      try refine run_s ?_
      rw [e8]
      refine st_loop (fun m E U' M' => ∃ (i cy : Nat) (r : List Nat) (D : MH), i ≤ nm ∧ cy ≤ 9 ∧ Own D pm nm cm r ∧ r.drop i = lm.drop i ∧ val (r.take i) + 4294967296 ^ i * cy = 10 * val (lm.take i) + (c - 48) ∧
          E = (54, .int .i64 (i : Int)) :: (9, .int .u64 (cy : Int)) :: (52, .slice pm nm cm) :: (53, .int .i64 (nm : Int)) :: (38, .int .i64 (k : Int)) :: (6, .slice pm nm cm) :: (36, .slice (some ⟨bb, 0, none⟩) (body s).length cb) :: (37, .int .i64 ((body s).length : Int)) :: (5, .bool (decide (s.head? = some 45))) :: (2, .pointer (some ⟨b2, 0, none⟩)) :: [] ∧ U1 = U' ∧ M' = D ++ ((b2, .var (.agg #[.bool false, .slice none 0 0]), 24) :: X) ∧ m = nm - i) (n0 := nm)
        (E0 := (54, .int .i64 ((0 : Nat) : Int)) :: (9, .int .u64 ((c - 48 : Nat) : Int)) :: (52, .slice pm nm cm) :: (53, .int .i64 (nm : Int)) :: (38, .int .i64 (k : Int)) :: (6, .slice pm nm cm) :: (36, .slice (some ⟨bb, 0, none⟩) (body s).length cb) :: (37, .int .i64 ((body s).length : Int)) :: (5, .bool (decide (s.head? = some 45))) :: (2, .pointer (some ⟨b2, 0, none⟩)) :: []) ⟨rfl, rfl, rfl, rfl, rfl, rfl, rfl, rfl, rfl, rfl, trivial⟩
        ⟨0, c - 48, lm, D, by omega, by omega, ho, rfl, by simp [val], rfl, rfl, rfl, rfl⟩ ?_
      clear ho e8
      rintro m E U' M' ⟨i, cy, r, D, hi, hcy, ho, hdr, hvr, rfl, rfl, rfl, rfl⟩
      have hol2 := ho.len
      try refine run_s ?_
      refine st_dec rfl (fun h8 => ?_) (fun h8 => ?_)
      · obtain ⟨x, hx, hbx, hpx, hcx⟩ := (ho.dig (U := U1) (M := (b2, .var (.agg #[.bool false, .slice none 0 0]), 24) :: X)).get (k := i) (by omega)
        obtain ⟨s1, s2⟩ := parse_step (by omega) hx hdr hvr
        try refine run_s ?_
        refine sl_y (yl_index1 sym rfl rfl rfl rfl rfl rfl (by omega) hpx) rfl rfl rfl rfl ?_; refine sl_y (yl_loadD sym rfl rfl rfl rfl hcx) rfl rfl rfl rfl ?_
        try refine run_s ?_
        refine sl_y (yl_index1 sym rfl rfl rfl rfl rfl rfl (by omega) hpx) rfl rfl rfl rfl ?_
        refine sl_storeO (v := (x * 10 + cy) % 4294967296) sym rfl rfl rfl (by omega) ho (List.Perm.refl _) (by omega) (by omega) rfl rfl rfl rfl rfl (fun D' hD' => ?_)
        rw [show ((x : Int) * 10 + (cy : Int)) / 2 ^ 32 = (((x * 10 + cy) / 4294967296 : Nat) : Int) by rw [show (2 : Int) ^ 32 = 4294967296 by decide]; omega]
        try refine run_s ?_
        exact sk_again (E' := (54, .int .i64 ((i : Int) + 1)) :: (9, .int .u64 (((x * 10 + cy) / 4294967296 : Nat) : Int)) :: (52, .slice pm nm cm) :: (53, .int .i64 (nm : Int)) :: (38, .int .i64 (k : Int)) :: (6, .slice pm nm cm) :: (36, .slice (some ⟨bb, 0, none⟩) (body s).length cb) :: (37, .int .i64 ((body s).length : Int)) :: (5, .bool (decide (s.head? = some 45))) :: (2, .pointer (some ⟨b2, 0, none⟩)) :: []) (m := nm - (i + 1)) ⟨rfl, rfl, rfl, rfl, rfl, rfl, rfl, rfl, rfl, rfl, trivial⟩ (by omega)
          ⟨i + 1, _, _, D', by omega, by omega, hD', s1, s2, rfl, rfl, rfl, rfl⟩
      · have hin : i = nm := by omega
        subst hin
        rw [List.take_of_length_le (by omega), List.take_of_length_le (by omega), hv] at hvr
        try refine run_s ?_
        refine st_dec rfl (fun h9 => ?_) (fun h9 => ?_)
        · try refine run_s ?_
          have e10 : (cy : Int) % 4294967296 = (cy : Int) := by omega
          refine sl_bslice (vs := [cy].map dg) sym rfl rfl rfl rfl rfl rfl (by intro v hv; obtain ⟨y, _, rfl⟩ := List.mem_map.1 hv; rfl) rfl rfl rfl rfl rfl rfl (fun bo => ?_)
          refine sl_perm ?_ (perm1 (D := D)).symm
          have hdc : Dig U1 (D ++ ((bo, .arr ([cy].map dg), TU32) :: (b2, .var (.agg #[.bool false, .slice none 0 0]), 24) :: X)) (some ⟨bo, 0, none⟩) 1 1 [cy] :=
            (dig_row (U := U1) (M := (bo, .arr ([cy].map dg ++ []), TU32) :: (b2, .var (.agg #[.bool false, .slice none 0 0]), 24) :: X) (i := 0) (b := bo) (r := [cy]) (t := []) (n := 1) (c := 1) rfl rfl rfl (by omega) (fun d hd => by rw [List.mem_singleton.1 hd]; omega)).up (ULe.refl _) (List.sublist_append_right ..)
          refine sl_appendD (D := D) sym rfl rfl rfl rfl rfl ho rfl hdc (by omega) rfl rfl rfl rfl (fun p' cc D' hD' => ?_)
          refine sl_perm (M' := D' ++ ((b2, .var (.agg #[.bool false, .slice none 0 0]), 24) :: (bo, .arr ([cy].map dg), TU32) :: X)) ?_ (List.Perm.append_left D' (List.Perm.swap ..))
          try refine run_s ?_
          have hvn : val (r ++ [cy]) = dv ((body s).take (k + 1)) := by rw [val_snoc, hdv, hol2.1]; omega
          exact sk_again (E' := (38, .int .i64 ((k : Int) + 1)) :: (6, .slice p' (i + 1) cc) :: (36, .slice (some ⟨bb, 0, none⟩) (body s).length cb) :: (37, .int .i64 ((body s).length : Int)) :: (5, .bool (decide (s.head? = some 45))) :: (2, .pointer (some ⟨b2, 0, none⟩)) :: []) (m := (body s).length - (k + 1)) ⟨rfl, rfl, rfl, rfl, rfl, rfl, trivial⟩ (by omega) ⟨k + 1, p', i + 1, cc, r ++ [cy], D', _, by omega, hdg2, hD', by omega, hvn, rfl, rfl, rfl, hX.cons _, rfl⟩
        · have hcy0 : cy = 0 := by omega
          subst hcy0
          try refine run_s ?_
          exact sk_again (E' := (38, .int .i64 ((k : Int) + 1)) :: (6, .slice pm i cm) :: (36, .slice (some ⟨bb, 0, none⟩) (body s).length cb) :: (37, .int .i64 ((body s).length : Int)) :: (5, .bool (decide (s.head? = some 45))) :: (2, .pointer (some ⟨b2, 0, none⟩)) :: []) (m := (body s).length - (k + 1)) ⟨rfl, rfl, rfl, rfl, rfl, rfl, trivial⟩ (by omega) ⟨k + 1, pm, i, cm, r, D, X, by omega, hdg2, ho, by omega, by rw [hdv]; omega, rfl, rfl, rfl, hX, rfl⟩
    · have hk1 : k = (body s).length := by omega
      subst hk1
      rw [List.take_of_length_le (Nat.le_refl _)] at hv hdg
      have hgood : Good s := ⟨hb0, hb1, hdg⟩
      refine st_perm (perm1 (D := D)) ?_
      repeat (first | refine run_S ?_ | refine w_box (fun _ => ?_) | refine w_al (fun _ => ?_))
      refine sl_call rfl rfl rfl rfl rfl rfl (fun _ => signed_ct ((ho.dig (U := U1) (M := X)).up (ULe.refl _) sb)) ?_
      rintro v U' D2 hU ⟨rfl, rfl, rfl⟩
      repeat (first | refine run_S ?_ | refine w_box (fun _ => ?_) | refine w_al (fun _ => ?_))
      have hown := own_signed (neg := decide (s.head? = some 45)) ho
      rw [hv] at hown
      exact sk_ret D sym rfl (.cons (.cell 0 rfl rfl rfl) (.cons (.tmp rfl) .nil)) hUc (.cons _ (List.Sublist.append (List.Sublist.refl D) hX)) (.inl rfl) ⟨_, 0, rfl, fun _ => ⟨rfl, hown⟩, fun h => absurd hgood h, hUc⟩

end Go.Proofs.YtcndgdjelopmaaaGreat
