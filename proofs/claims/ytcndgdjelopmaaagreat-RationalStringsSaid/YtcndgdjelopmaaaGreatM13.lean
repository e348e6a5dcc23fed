/- Texts of this seat's own, merged: each begins with its own remark. -/
import Derived.Test.YtcndgdjelopmaaaGreatM12
import Derived.Test.YtcndgdjelopmaaaGreatM18
import Derived.Test.YtcndgdjelopmaaaGreatM5
/- Walks of the reference of layer 1: decimal forms. -/
namespace Go.Proofs.YtcndgdjelopmaaaGreat
open Go.Hp
variable {G : World} {U : UH} {M : MH}

theorem tenth_ct {p : Option Addr} {n c : Nat} {a : List Nat} (ha : Dig U M p n c a) (hn : n ≤ 1099511627776) :
    Ct Tryz.prog 51 [.slice p n c] G U M fun v U' D => ∃ q k cc l, v = .tuple #[.slice q k cc, .int .i64 ((val a % 10 : Nat) : Int)] ∧ Own D q k cc l ∧ Cn l ∧ val l = val a / 10 ∧ k ≤ n ∧ U = U' := by
  have hl1 := ha.len
  have h3 := ha.capm
  have h4 := ha.cap
  refine ct_of_st Tryz.func51 rfl rfl rfl rfl ?_
  try refine run_s ?_
  refine sl_make (m := n) (n := n) sym rfl rfl rfl rfl rfl rfl rfl rfl rfl (Nat.le_refl _) (by omega) (by omega) rfl rfl rfl rfl (fun bo => ?_)
  rw [dg_rep]
  try refine run_s ?_
  refine st_loop (fun m E U' M' => ∃ (k r : Nat) (q : List Nat), k ≤ n ∧ r < 10 ∧ q.length = n - k ∧ Bd q ∧ val q * 10 + r = val (a.drop k) ∧
      E = [(6, .int .i64 ((k : Int) - 1)), (0, .slice p n c), (4, .slice (some ⟨bo, 0, none⟩) n n), (5, .int .u64 (r : Int))] ∧
      U = U' ∧ M' = (bo, .arr ((List.replicate k 0 ++ q).map dg), TU32) :: M ∧ k = m) (n0 := n)
    (E0 := [(6, .int .i64 ((n : Int) - 1)), (0, .slice p n c), (4, .slice (some ⟨bo, 0, none⟩) n n), (5, .int .u64 ((0 : Nat) : Int))])
    ⟨rfl, rfl, rfl, rfl, trivial⟩ ⟨n, 0, [], by omega, by omega, by simp, (by intro d hd; cases hd), by rw [List.drop_of_length_le (by omega)]; simp [val], rfl, rfl, by rw [List.append_nil], rfl⟩ ?_
  rintro m E U' M' ⟨k, r, q, hk, hr, hq, hbq, hv, rfl, rfl, rfl, rfl⟩
  try refine run_s ?_
  refine st_dec rfl (fun h5 => ?_) (fun h5 => ?_)
  · have hk1 : (k : Int) - 1 = ((k - 1 : Nat) : Int) := by omega
    obtain ⟨x, hx, hbx, hp1, hcx⟩ := ha.get (k := k - 1) (by omega)
    replace hcx := fun G w hw => hcx G w (Mem.anti (M' := (bo, .arr ((List.replicate k 0 ++ q).map dg), TU32) :: M) hw (ULe.refl _) (List.sublist_cons_self ..))
    have e0 : (r : Int) * 2 ^ 32 = ((r * 4294967296 : Nat) : Int) := by rw [show (2 : Int) ^ 32 = 4294967296 by decide]; omega
    try refine run_s ?_
    rw [show IntKind.u64.wrap ((r : Int) * 2 ^ 32) = ((r * 4294967296 : Nat) : Int) by rw [e0, wrap_u64]; omega]
    refine sl_y (yl_index1 sym rfl rfl rfl rfl rfl (hk1) (by first | omega | assumption) hp1) rfl rfl rfl rfl ?_; refine sl_y (yl_loadD sym rfl rfl rfl rfl hcx) rfl rfl rfl rfl ?_
    try refine run_s ?_
    have e1 : ((r * 4294967296 : Nat) : Int) + (x : Int) = ((r * 4294967296 + x : Nat) : Int) := by omega
    have hql : (r * 4294967296 + x) / 10 < 4294967296 := by omega
    have e11 : IntKind.u64.wrap ((((r * 4294967296 : Nat) : Int) + (x : Int)).tdiv 10) % 4294967296 = (((r * 4294967296 + x) / 10 : Nat) : Int) := by
      rw [e1, Int.tdiv_eq_ediv_of_nonneg (by omega), wrap_in (by omega) (by simp only [kmax]; omega)]; omega
    have e12 : (((r * 4294967296 : Nat) : Int) + (x : Int)).tmod 10 = (((r * 4294967296 + x) % 10 : Nat) : Int) := by
      rw [e1, Int.tmod_eq_emod_of_nonneg (by omega)]; omega
    refine sl_y (yl_indexM (j := k - 1) sym rfl rfl rfl rfl rfl hk1 (by omega)) rfl rfl rfl rfl ?_
    refine sl_storeD (v := (r * 4294967296 + x) / 10) 0 sym rfl rfl rfl e11 rfl rfl rfl (j := k - 1) (by omega) (by simp only [List.length_append, List.length_replicate]; omega) rfl rfl rfl ?_
    have e : List.replicate k 0 ++ q = List.replicate (k - 1 + 1) 0 ++ q := by rw [show k - 1 + 1 = k by omega]
    rw [e, set_back]
    try refine run_s ?_
    rw [hk1, e12]
    refine sk_again (E' := [(6, .int .i64 (((k - 1 : Nat) : Int) - 1)), (0, .slice p n c), (4, .slice (some ⟨bo, 0, none⟩) n n), (5, .int .u64 (((r * 4294967296 + x) % 10 : Nat) : Int))]) (m := k - 1)
      ⟨rfl, rfl, rfl, rfl, trivial⟩ (by omega) ⟨k - 1, (r * 4294967296 + x) % 10, (r * 4294967296 + x) / 10 :: q, by omega, Nat.mod_lt _ (by decide), by simp [hq]; omega, ?_, ?_, rfl, rfl, rfl, rfl⟩
    · intro y hy; rcases List.mem_cons.1 hy with rfl | hy
      · exact hql
      · exact hbq y hy
    · obtain ⟨hl, he⟩ := List.getElem?_eq_some_iff.1 hx
      rw [List.drop_eq_getElem_cons hl, he, show k - 1 + 1 = k by omega]
      have e2 := Nat.mod_add_div (r * 4294967296 + x) 10
      simp only [val, ← hv]
      generalize (r * 4294967296 + x) % 10 = s at *
      generalize (r * 4294967296 + x) / 10 = t at *
      grind
  · have : k = 0 := by omega
    subst this
    try refine run_s ?_
    have ho := Own.row (b := bo) (n := n) (c := n) (r := List.replicate 0 0 ++ q) (Nat.le_refl _) (by simpa using hq) (by omega) (by simpa using hbq)
    rw [take_all (by simp [hq])] at ho
    simp only [List.drop_zero] at hv
    refine sl_call rfl rfl rfl rfl rfl rfl (fun _ => trim_ct (ho.dig.app _) hn) ?_
    rintro v U' D hU ⟨q2, k2, cc2, rfl, ho2, hk2, rfl⟩
    have e1 : val a % 10 = r := by omega
    have e2 : val a / 10 = val q := by omega
    try refine run_s ?_
    refine sk_ret D sym rfl (.cons (.tmp rfl) (.cons (.tmp rfl) .nil)) (ULe.refl _) (List.Sublist.append (List.Sublist.refl D) (List.sublist_cons_self ..)) (.inl rfl) ⟨q2, k2, cc2, _, ?_, ho2, cn_tl (by simpa using hbq), by rw [val_tl, e2]; simp, ?_, rfl⟩
    · rw [e1]; rfl
    · rw [hk2]; exact Nat.le_trans (tl_length_le _) (by simp [hq])

end Go.Proofs.YtcndgdjelopmaaaGreat

/- Walks of the reference of layer 1: the decimal form, written and read. -/
namespace Go.Proofs.YtcndgdjelopmaaaGreat
open Go.Hp
variable {G : World} {U : UH} {M : MH}

theorem dl_pow : ∀ n : Nat, n ≠ 0 → 10 ^ ((dl n).length - 1) ≤ n := by
  intro n
  induction n using Nat.strongRecOn with
  | ind n ih =>
    intro h0
    by_cases h : n < 10
    · rw [dl_small h]; simp; omega
    · have := ih (n / 10) (by omega) (by omega)
      rw [dl_step h, List.length_cons]
      obtain ⟨a, l, e⟩ := List.exists_cons_of_ne_nil (dl_spec (n / 10)).2.2
      rw [e] at this ⊢
      simp only [List.length_cons, Nat.add_sub_cancel] at this ⊢
      rw [Nat.pow_succ]; omega
theorem dl_len_le {n k : Nat} (h : n < 4294967296 ^ k) : (dl n).length ≤ 32 * k + 1 := by
  by_cases h0 : n = 0
  · subst h0; simp [dl_small]
  · have h1 := dl_pow n h0
    have h2 : 2 ^ ((dl n).length - 1) ≤ 10 ^ ((dl n).length - 1) := Nat.pow_le_pow_left (by decide) _
    have h3 : 4294967296 ^ k = 2 ^ (32 * k) := by rw [Nat.pow_mul]
    rw [h3] at h
    have h4 : 2 ^ ((dl n).length - 1) < 2 ^ (32 * k) := by omega
    have := (Nat.pow_lt_pow_iff_right (a := 2) (by decide)).1 h4
    omega

theorem tenth_cs {p : Option Addr} {n c : Nat} {a : List Nat} (ha : Dig U M p n c a) (hn : n ≤ 1099511627776) :
    Ct Tryz.prog 51 [.slice p n c] G U M fun v U' D => D = [] ∧ ∃ q k cc l, v = .tuple #[.slice q k cc, .int .i64 ((val a % 10 : Nat) : Int)] ∧ Dig U' [] q k cc l ∧ Cn l ∧ val l = val a / 10 ∧ k ≤ n := by
  refine (tenth_ct ha hn).settle.mono ?_
  rintro v U' D hU ⟨rfl, _, _, ⟨q, k, cc, l, rfl, ho, hc, hv, hk, -⟩, -, -, hs⟩
  exact ⟨rfl, q, k, cc, l, rfl, ho.sett hs, hc, hv, hk⟩

theorem rFormat_ct {x : IV} {z : Int} (hx : x.rep U M z) (hn : x.n ≤ 549755813888) :
    Ct Tryz.prog 23 [x.v] G U M fun v U' D => v = .string (bstr (fmt z)) ∧ D = [] := by
  have sz := hx.sz (Nat.le_refl _)
  refine ct_of_st Tryz.func23 rfl rfl rfl rfl ?_
  repeat (first | refine run_S ?_ | refine w_box (fun _ => ?_) | refine w_al (fun _ => ?_))
  rename_i b1
  refine sl_call rfl rfl rfl rfl rfl rfl (fun _ => (Norm_ct (hx.up uc sb) (by omega)).settle) ?_
  rintro v Uh1 D hU ⟨rfl, _, _, ⟨xh1, rfl, h1, -⟩, -, -, hs⟩
  replace h1 := h1.sett hs
  clear hs
  repeat (first | refine run_S ?_ | refine w_box (fun _ => ?_) | refine w_al (fun _ => ?_))
  rename_i b3
  obtain ⟨neg, p1, n1, c1⟩ := xh1
  obtain ⟨l, hd, hc, hv, hneg⟩ := h1
  simp only at hd hneg
  have hl1 := hd.len
  have hnx : n1 ≤ 549755813888 := by
    have := IV.nrm.len_le (x := IV.mk neg p1 n1 c1) (U := Uh1) (M := []) (z := z) ⟨l, hd, hc, hv, hneg⟩ sz
    simp only at this
    omega
  have hll := dl_len_le (n := z.natAbs) sz
  try refine run_s ?_
  refine st_loop (fun m E U' M' => ∃ (p : Option Addr) (n c : Nat) (l t : List Nat), Dig U' [] p n c l ∧ n ≤ 549755813888 ∧ dl z.natAbs = t ++ dl (val l) ∧
      E = [(4, .string (bstr (t.map (48 + ·)).reverse)), (5, .slice p n c), (3, .pointer (some ⟨b3, 0, none⟩))] ∧ ULe U U' ∧ M' = (b3, .var (.agg #[.bool neg, .slice p1 n1 c1]), 24) :: (b1, .var x.v, 24) :: M ∧ m = val l) (n0 := val l)
    (E0 := [(4, .string (bstr (([] : List Nat).map (48 + ·)).reverse)), (5, .slice p1 n1 c1), (3, .pointer (some ⟨b3, 0, none⟩))])
    ⟨rfl, rfl, rfl, trivial⟩ ⟨p1, n1, c1, l, [], hd, hnx, by rw [hv]; rfl, rfl, uc, rfl, rfl⟩ ?_
  clear hd hc hl1 hnx
  rintro m E U' M' ⟨p, n, c, l, t, hd, hnx, hdl, rfl, hU2, rfl, rfl⟩
  have htl : t.length ≤ (dl z.natAbs).length := by rw [hdl, List.length_append]; omega
  repeat (first | refine run_S ?_ | refine w_box (fun _ => ?_) | refine w_al (fun _ => ?_))
  refine sl_call rfl rfl rfl rfl rfl rfl (fun _ => tenth_cs (hd.up (ULe.refl _) sb) (by omega)) ?_
  rintro v U3 D hU3 ⟨rfl, q, k, cc, l2, rfl, hd2, hc2, hv2, hk2⟩
  have hd2l := hd2.len
  obtain ⟨r, hr⟩ : ∃ r, r = val l % 10 := ⟨_, rfl⟩
  rw [← hr]
  have hr10 : r < 10 := by omega
  repeat (first | refine run_S ?_ | refine w_box (fun _ => ?_) | refine w_al (fun _ => ?_))
  rw [show (48 : Int) + (r : Int) = ((48 + r : Nat) : Int) by omega]
  refine sl_bslice (vs := [48 + r].map by8) sym rfl rfl rfl rfl rfl rfl (by_size _) rfl rfl rfl rfl rfl rfl (fun bo => ?_)
  refine sl_y (yl_strB (r := [48 + r]) (tl := []) 0 sym rfl rfl rfl rfl rfl rfl rfl rfl (by intro d hd; rw [List.mem_singleton.1 hd]; omega)) rfl rfl rfl rfl ?_
  try refine run_s ?_
  refine sl_y (yl_stradd rfl rfl rfl (by rw [bstr_size, bstr_size]; simp only [List.length_singleton, List.length_reverse, List.length_map]; omega)) rfl rfl rfl rfl ?_
  rw [bstr_append, show [48 + r] ++ (t.map (48 + ·)).reverse = ((t ++ [r]).map (48 + ·)).reverse by simp]
  try refine run_s ?_
  refine st_eq rfl (fun h0 => ?_) (fun h0 => ?_)
  · have hl2 : l2 = [] := List.eq_nil_of_length_eq_zero (by omega)
    have hlast : dl z.natAbs = t ++ [r] := by
      rw [hdl]
      have : val l / 10 = 0 := by rw [← hv2, hl2]; rfl
      rw [dl_small (by omega), hr, Nat.mod_eq_of_lt (by omega)]
    rw [← hlast]
    try refine run_s ?_
    cases neg
    · have hz : ¬ z < 0 := fun h => by rw [decide_eq_true h] at hneg; cases hneg
      try refine run_s ?_
      exact sk_ret [] sym rfl (.cons (.tmp rfl) .nil) uc sb (.inl rfl) ⟨by unfold fmt; rw [if_neg hz]; rfl, rfl⟩
    · have hz : z < 0 := of_decide_eq_true hneg.symm
      try refine run_s ?_
      refine sl_y (yl_stradd (a := bstr [45]) rfl rfl rfl (by rw [bstr_size, bstr_size]; simp only [List.length_singleton, List.length_reverse, List.length_map]; omega)) rfl rfl rfl rfl ?_
      rw [bstr_append]
      try refine run_s ?_
      exact sk_ret [] sym rfl (.cons (.tmp rfl) .nil) uc sb (.inl rfl) ⟨by unfold fmt; rw [if_pos hz]; rfl, rfl⟩
  · have hne : val l2 ≠ 0 := by
      have := hc2.ge (fun e => h0 (by rw [← hd2l, e]; rfl))
      have := Nat.pow_pos (n := l2.length - 1) (show 0 < 4294967296 by decide)
      omega
    have hbig : ¬ val l < 10 := by omega
    try refine run_s ?_
    refine sk_anti (ULe.refl _) (M' := (b3, .var (.agg #[.bool neg, .slice p1 n1 c1]), 24) :: (b1, .var x.v, 24) :: M) sb ?_
    exact sk_again (E' := [(4, .string (bstr ((t ++ [r]).map (48 + ·)).reverse)), (5, .slice q k cc), (3, .pointer (some ⟨b3, 0, none⟩))]) (m := val l2) ⟨rfl, rfl, rfl, trivial⟩ (by omega)
      ⟨q, k, cc, l2, t ++ [r], hd2, by omega, by rw [hdl, dl_step hbig, hv2, hr, List.append_assoc]; rfl, rfl, uc, rfl, rfl⟩

end Go.Proofs.YtcndgdjelopmaaaGreat

/- Walks of the reference of layer 1: the decimal form, read. -/
namespace Go.Proofs.YtcndgdjelopmaaaGreat
open Go.Hp
variable {G : World} {U : UH} {M : MH}

theorem sz_dv {l : List Nat} (h : ∀ c ∈ l, c ≤ 57) : Sz (dv l : Int) l.length := by
  unfold Sz
  rw [Int.natAbs_natCast]
  exact Nat.lt_of_lt_of_le (dv_lt l h) (Nat.pow_le_pow_left (by decide) _)

theorem rParse_ct {s : List Nat} (hs : ∀ c ∈ s, c < 256) (hn : s.length ≤ 1000000000) :
    Ct Tryz.prog 27 [.string (bstr s)] G U M fun v U' D => D = [] ∧ ∃ (r : IV) (b : Bool), v = .tuple #[r.v, .bool b] ∧ (Good s → b = true ∧ r.nrm U' [] (pv s)) ∧ (¬ Good s → b = false ∧ r = zeroIV) := by
  refine ct_of_st Tryz.func27 rfl rfl rfl rfl ?_
  refine st_seq ?_
  repeat (first | refine run_O ?_ | refine w_box (fun _ => ?_) | refine w_al (fun _ => ?_))
  rename_i b2
  refine st_seq ?_
  repeat (first | refine run_O ?_ | refine w_box (fun _ => ?_) | refine w_al (fun _ => ?_))
  refine st_seq_cut (fun E U' M' => ∃ i : Nat, i ≤ s.length ∧ i ≤ 1 ∧ (i = 1 ↔ s.head? = some 45) ∧ body s = s.drop i ∧
    E = (4, .int .i64 (i : Int)) :: (0, .string (bstr s)) :: [(2, .pointer (some ⟨b2, 0, none⟩))] ∧ U = U' ∧ M' = (b2, .var (.agg #[.bool false, .slice none 0 0]), 24) :: M) ?_ ?_
  · try refine run_s ?_
    refine sl_gdec rfl rfl (fun h1 => ?_) (fun h1 => ?_)
    · rw [bstr_size] at h1
      obtain ⟨a, r, rfl⟩ := List.exists_cons_of_ne_nil (l := s) (fun e => by subst e; simp at h1)
      have ha := hs a (List.mem_cons_self ..)
      try refine run_s ?_
      refine sl_y (yl_strAt (s := a :: r) (k := 0) sym rfl rfl rfl rfl rfl rfl rfl ha) rfl rfl rfl rfl ?_
      try refine run_s ?_
      refine st_eq rfl (fun h2 => ?_) (fun h2 => ?_)
      · have h45 : a = 45 := by omega
        subst h45
        try refine run_s ?_
        exact sk_cut (E' := (4, .int .i64 ((1 : Nat) : Int)) :: (0, .string (bstr (45 :: r))) :: [(2, .pointer (some ⟨b2, 0, none⟩))]) ⟨rfl, rfl, rfl, trivial⟩ ⟨1, by simp, by omega, by simp, by simp [body], rfl, rfl, rfl⟩
      · have h45 : a ≠ 45 := by omega
        try refine run_s ?_
        exact sk_cut (E' := (4, .int .i64 ((0 : Nat) : Int)) :: (0, .string (bstr (a :: r))) :: [(2, .pointer (some ⟨b2, 0, none⟩))]) ⟨rfl, rfl, rfl, trivial⟩ ⟨0, by simp, by omega, by simp [h45], by simp [body, h45], rfl, rfl, rfl⟩
    · rw [bstr_size] at h1
      have hs0 : s = [] := List.eq_nil_of_length_eq_zero (by omega)
      subst hs0
      try refine run_s ?_
      exact sk_cut (E' := (4, .int .i64 ((0 : Nat) : Int)) :: (0, .string (bstr [])) :: [(2, .pointer (some ⟨b2, 0, none⟩))]) ⟨rfl, rfl, rfl, trivial⟩ ⟨0, by simp, by omega, by simp, by simp [body], rfl, rfl, rfl⟩
  · rintro E U' M' ⟨i, hi, hi1, h45, hbody, rfl, rfl, rfl⟩
    have hbl : (body s).length = s.length - i := by rw [hbody, List.length_drop]
    have hget : ∀ j, (body s)[j]? = s[i + j]? := fun j => by rw [hbody, List.getElem?_drop]
    refine st_seq_cut (fun E U' M' => body s ≠ [] ∧ ¬ ((body s).head? = some 48 ∧ s ≠ [48]) ∧ E = (4, .int .i64 (i : Int)) :: (0, .string (bstr s)) :: [(2, .pointer (some ⟨b2, 0, none⟩))] ∧ U = U' ∧ M' = (b2, .var (.agg #[.bool false, .slice none 0 0]), 24) :: M) ?_ ?_
    · try refine run_s ?_
      refine sl_gdec rfl rfl (fun h1 => ?_) (fun h1 => ?_)
      · rw [bstr_size] at h1
        have hbad : ¬ Good s := fun h => h.1 (List.eq_nil_of_length_eq_zero (by omega))
        repeat (first | refine run_S ?_ | refine w_box (fun _ => ?_) | refine w_al (fun _ => ?_))
        exact sk_ret [] sym rfl (.cons (.cell 0 rfl rfl rfl) (.cons (.tmp rfl) .nil)) uc sb (.inl rfl) ⟨rfl, zeroIV, false, rfl, fun h => absurd h hbad, fun _ => ⟨rfl, rfl⟩⟩
      · rw [bstr_size] at h1
        have hlt : i < s.length := by omega
        obtain ⟨a, hsa⟩ : ∃ a, s[i]? = some a := ⟨_, List.getElem?_eq_getElem hlt⟩
        have hba : (body s).head? = some a := by rw [List.head?_eq_getElem?, hget, Nat.add_zero, hsa]
        have ha := hs a (List.mem_of_getElem? hsa)
        have hb0 : body s ≠ [] := fun e => by rw [e] at hba; cases hba
        have h48 : s.length ≤ 1 → a = 48 → s = [48] := fun h e => by
          have hi0 : i = 0 := by omega
          subst hi0
          obtain ⟨x, r, rfl⟩ := List.exists_cons_of_ne_nil (l := s) (fun e => by subst e; simp at hlt)
          have hr : r = [] := List.eq_nil_of_length_eq_zero (by simpa using h)
          subst hr
          simp at hsa; subst hsa; rw [e]
        try refine run_s ?_
        refine sl_y (yl_strAt (s := s) (k := i) sym rfl rfl rfl rfl rfl rfl hsa ha) rfl rfl rfl rfl ?_
        try refine run_s ?_
        refine sl_gdec rfl rfl (fun h2 => ?_) (fun h2 => ?_)
        · have ha48 : a = 48 := by omega
          try refine run_s ?_
          refine st_dec rfl (fun h3 => ?_) (fun h3 => ?_)
          · rw [bstr_size] at h3
            have hbad : ¬ Good s := fun h => h.2.1 ⟨by rw [hba, ha48], fun e => by rw [e] at h3; simp at h3⟩
            repeat (first | refine run_S ?_ | refine w_box (fun _ => ?_) | refine w_al (fun _ => ?_))
            exact sk_ret [] sym rfl (.cons (.cell 0 rfl rfl rfl) (.cons (.tmp rfl) .nil)) uc sb (.inl rfl) ⟨rfl, zeroIV, false, rfl, fun h => absurd h hbad, fun _ => ⟨rfl, rfl⟩⟩
          · rw [bstr_size] at h3
            try refine run_s ?_
            exact sk_cut (E' := (4, .int .i64 (i : Int)) :: (0, .string (bstr s)) :: [(2, .pointer (some ⟨b2, 0, none⟩))]) ⟨rfl, rfl, rfl, trivial⟩ ⟨hb0, fun h => h.2 (h48 (by omega) ha48), rfl, rfl, rfl⟩
        · try refine run_s ?_
          exact sk_cut (E' := (4, .int .i64 (i : Int)) :: (0, .string (bstr s)) :: [(2, .pointer (some ⟨b2, 0, none⟩))]) ⟨rfl, rfl, rfl, trivial⟩ ⟨hb0, fun h => h2 (by have := h.1; rw [hba] at this; simp at this; omega), rfl, rfl, rfl⟩
    · rintro E U' M' ⟨hb0, hb1, rfl, rfl, rfl⟩
      repeat (first | refine run_S ?_ | refine w_box (fun _ => ?_) | refine w_al (fun _ => ?_))
      refine sl_call rfl rfl rfl rfl rfl rfl (fun _ => (rOf_ct (z := 0) (by decide) (by decide)).settle) ?_
      rintro v Uh1 D hU ⟨rfl, _, _, ⟨xh1, rfl, h1, -⟩, -, -, hs⟩
      replace h1 := h1.sett hs
      clear hs
      repeat (first | refine run_S ?_ | refine w_box (fun _ => ?_) | refine w_al (fun _ => ?_))
      rename_i b5
      refine st_loop (fun m E U' M' => ∃ (j : Nat) (x : IV), j ≤ (body s).length ∧ (∀ c ∈ (body s).take j, 48 ≤ c ∧ c ≤ 57) ∧ x.nrm U' [] (dv ((body s).take j) : Int) ∧
          E = (6, .int .i64 ((i + j : Nat) : Int)) :: (5, .pointer (some ⟨b5, 0, none⟩)) :: (4, .int .i64 (i : Int)) :: (0, .string (bstr s)) :: [(2, .pointer (some ⟨b2, 0, none⟩))] ∧ ULe U U' ∧
          M' = (b5, .var x.v, 24) :: (b2, .var (.agg #[.bool false, .slice none 0 0]), 24) :: M ∧ m = (body s).length - j) (n0 := (body s).length)
        (E0 := (6, .int .i64 ((i + 0 : Nat) : Int)) :: (5, .pointer (some ⟨b5, 0, none⟩)) :: (4, .int .i64 (i : Int)) :: (0, .string (bstr s)) :: [(2, .pointer (some ⟨b2, 0, none⟩))]) ⟨rfl, rfl, rfl, rfl, rfl, trivial⟩
        ⟨0, xh1, by omega, (fun c hc => by simp at hc), h1, rfl, uc, rfl, rfl⟩ ?_
      clear h1
      rintro m E U' M' ⟨j, x, hj, hdg, hx, rfl, hU2, rfl, rfl⟩
      have hsx := sz_dv (l := (body s).take j) (fun c hc => (hdg c hc).2)
      replace hsx := hsx.mono (k := 1000000000) (by rw [List.length_take]; omega)
      try refine run_s ?_
      refine st_dec rfl (fun h2 => ?_) (fun h2 => ?_)
      · rw [bstr_size] at h2
        have hlt : i + j < s.length := by omega
        obtain ⟨c, hc⟩ : ∃ c, s[i + j]? = some c := ⟨_, List.getElem?_eq_getElem hlt⟩
        have hbc : (body s)[j]? = some c := by rw [hget, hc]
        have hc256 := hs c (List.mem_of_getElem? hc)
        try refine run_s ?_
        refine sl_y (yl_strAt (s := s) (k := i + j) sym rfl rfl rfl rfl rfl rfl hc hc256) rfl rfl rfl rfl ?_
        try refine run_s ?_
        refine sl_gdec rfl rfl (fun h3 => ?_) (fun h3 => ?_)
        · have hbad : ¬ Good s := fun h => by have := (h.2.2 c (List.mem_of_getElem? hbc)).1; omega
          repeat (first | refine run_S ?_ | refine w_box (fun _ => ?_) | refine w_al (fun _ => ?_))
          exact sk_ret [] sym rfl (.cons (.cell 1 rfl rfl rfl) (.cons (.tmp rfl) .nil)) uc sb (.inl rfl) ⟨rfl, zeroIV, false, rfl, fun h => absurd h hbad, fun _ => ⟨rfl, rfl⟩⟩
        try refine run_s ?_
        refine sl_y (yl_strAt (s := s) (k := i + j) sym rfl rfl rfl rfl rfl rfl hc hc256) rfl rfl rfl rfl ?_
        try refine run_s ?_
        refine st_dec rfl (fun h4 => ?_) (fun h4 => ?_)
        · have hbad : ¬ Good s := fun h => by have := (h.2.2 c (List.mem_of_getElem? hbc)).2; omega
          repeat (first | refine run_S ?_ | refine w_box (fun _ => ?_) | refine w_al (fun _ => ?_))
          exact sk_ret [] sym rfl (.cons (.cell 1 rfl rfl rfl) (.cons (.tmp rfl) .nil)) uc sb (.inl rfl) ⟨rfl, zeroIV, false, rfl, fun h => absurd h hbad, fun _ => ⟨rfl, rfl⟩⟩
        have hdg2 : ∀ e ∈ (body s).take (j + 1), 48 ≤ e ∧ e ≤ 57 := fun e he => by
          rw [List.take_add_one, hbc] at he
          rcases List.mem_append.1 he with h | h
          · exact hdg e h
          · rw [List.mem_singleton.1 h]; omega
        have hdv : ((dv ((body s).take (j + 1)) : Nat) : Int) = (dv ((body s).take j) : Int) * 10 + ((c - 48 : Nat) : Int) := by
          rw [List.take_add_one, hbc, Option.toList_some, dv_snoc]; omega
        have e8 : IntKind.i64.wrap (IntKind.u8.wrap ((c : Int) - 48)) = ((c - 48 : Nat) : Int) := by
          rw [wrap_in (k := .u8) (n := (c : Int) - 48) (by omega) (by simp only [kmax]; omega), wrap_in (by omega) (by simp only [kmax]; omega)]; omega
        repeat (first | refine run_S ?_ | refine w_box (fun _ => ?_) | refine w_al (fun _ => ?_))
        refine st_draw [0, 3, 4, 5, 6, 7, 1, 2, 8, 9, 10] sym (by kernel_rfl) ?_
        try refine run_s ?_
        refine sl_y (yl_strAt (s := s) (k := i + j) sym rfl rfl rfl rfl rfl rfl hc hc256) rfl rfl rfl rfl ?_
        try refine run_s ?_
        rw [e8]
        refine sl_call rfl rfl rfl rfl rfl rfl (fun _ => (rOf_ct (z := 10) (by decide) (by decide)).settle) ?_
        rintro v Uh5 D hU ⟨rfl, _, _, ⟨xh5, rfl, h5, -⟩, -, -, hs⟩
        replace h5 := h5.sett hs
        clear hs
        repeat (first | refine run_S ?_ | refine w_box (fun _ => ?_) | refine w_al (fun _ => ?_))
        refine sl_call rfl rfl rfl rfl rfl rfl (fun _ => (rMul_ct (hx.rep.up uc sb) (hx.le (hsx) (by omega)) (h5.rep.up uc sb) (h5.le (show Sz 10 1 by unfold Sz; decide) (by omega))).settle) ?_
        rintro v Uh6 D hU ⟨rfl, _, _, ⟨xh6, rfl, h6, -⟩, -, -, hs⟩
        replace h6 := h6.sett hs
        clear hs
        repeat (first | refine run_S ?_ | refine w_box (fun _ => ?_) | refine w_al (fun _ => ?_))
        refine sl_call rfl rfl rfl rfl rfl rfl (fun _ => (rOf_ct (z := ((c - 48 : Nat) : Int)) (by omega) (by omega)).settle) ?_
        rintro v Uh7 D hU ⟨rfl, _, _, ⟨xh7, rfl, h7, -⟩, -, -, hs⟩
        replace h7 := h7.sett hs
        clear hs
        repeat (first | refine run_S ?_ | refine w_box (fun _ => ?_) | refine w_al (fun _ => ?_))
        refine sl_call rfl rfl rfl rfl rfl rfl (fun _ => (rAdd_ct (h6.rep.up uc sb) (h6.le (hsx.mul (show Sz 10 1 by unfold Sz; decide)) (by omega)) (h7.rep.up uc sb) (h7.le (show Sz ((c - 48 : Nat) : Int) 1 by unfold Sz; omega) (by omega))).settle) ?_
        rintro v Uh8 D hU ⟨rfl, _, _, ⟨xh8, rfl, h8, -⟩, -, -, hs⟩
        replace h8 := h8.sett hs
        clear hs
        repeat (first | refine run_S ?_ | refine w_box (fun _ => ?_) | refine w_al (fun _ => ?_))
        rw [← hdv] at h8
        exact sk_again (E' := (6, .int .i64 (((i + j : Nat) : Int) + 1)) :: (5, .pointer (some ⟨b5, 0, none⟩)) :: (4, .int .i64 (i : Int)) :: (0, .string (bstr s)) :: [(2, .pointer (some ⟨b2, 0, none⟩))]) (m := (body s).length - (j + 1)) ⟨rfl, rfl, rfl, rfl, rfl, trivial⟩ (by omega)
          ⟨j + 1, xh8, by omega, hdg2, h8, rfl, uc, rfl, rfl⟩
      · rw [bstr_size] at h2
        have hj1 : j = (body s).length := by omega
        subst hj1
        rw [List.take_of_length_le (Nat.le_refl _)] at hx hdg
        have hgood : Good s := ⟨hb0, hb1, hdg⟩
        have hnx := hx.le (b := 549755813888) (by rw [List.take_of_length_le (Nat.le_refl _)] at hsx; exact hsx) (by decide)
        obtain ⟨neg, p, n, c⟩ := x
        obtain ⟨l, hd, -, hv, -⟩ := hx
        simp only at hd hnx
        have e9 : dec ((i : Int) = 1) = decide (s.head? = some 45) := by
          rw [dec_eq]
          exact decide_eq_decide.2 (by rw [← h45]; omega)
        try refine run_s ?_
        rw [e9]
        refine sl_call rfl rfl rfl rfl rfl rfl (fun _ => (rsigned_ct (neg := decide (s.head? = some 45)) (hd.up uc sb) (by omega)).settle) ?_
        rintro v Uh9 D hU ⟨rfl, _, _, ⟨xh9, rfl, h9, -⟩, -, -, hs⟩
        replace h9 := h9.sett hs
        clear hs
        repeat (first | refine run_S ?_ | refine w_box (fun _ => ?_) | refine w_al (fun _ => ?_))
        rw [hv, Int.natAbs_natCast] at h9
        exact sk_ret [] sym rfl (.cons (.cell 1 rfl rfl rfl) (.cons (.tmp rfl) .nil)) uc sb (.inl rfl) ⟨rfl, xh9, true, rfl, fun _ => ⟨rfl, h9⟩, fun h => absurd hgood h⟩

end Go.Proofs.YtcndgdjelopmaaaGreat
