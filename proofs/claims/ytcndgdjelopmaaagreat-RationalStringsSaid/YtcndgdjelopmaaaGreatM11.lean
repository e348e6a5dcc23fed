/- Texts of this seat's own, merged: each begins with its own remark. -/
import Derived.Test.YtcndgdjelopmaaaGreatM10
import Derived.Test.YtcndgdjelopmaaaGreatM2
/- The law on the greatest common divisor and its cofactors. -/
namespace Go.Proofs.YtcndgdjelopmaaaGreat
open Go.Hp
variable {G : World} {U : UH} {M : MH}

theorem sz_factor {t w : Int} {k : Nat} (h : Sz (t * w) k) (hw : w ≠ 0) : Sz t k := by
  unfold Sz at *
  rw [Int.natAbs_mul] at h
  exact Nat.lt_of_le_of_lt (Nat.le_mul_of_pos_right _ (Int.natAbs_pos.2 hw)) h

end Go.Proofs.YtcndgdjelopmaaaGreat

/- For the law on memory: integers with the same digits are the same; a family of own rows of digits, of which one is written. -/
namespace Go.Proofs.YtcndgdjelopmaaaGreat
open Go.Hp
variable {G : World} {U : UH} {M : MH}

theorem SameDig_ct {x y : IV} {l : List Nat} (hx : Dig U M x.p x.n x.c l) (hy : Dig U M y.p y.n y.c l) (hnn : x.neg = y.neg) :
    Ct Tryz.prog 24 [x.v, y.v] G U M fun v U' D => v = .bool true ∧ U = U' ∧ D = [] := by
  obtain ⟨neg, p, n, c⟩ := y
  obtain ⟨neg1, p1, n1, c1⟩ := x
  simp only at hx hy hnn
  subst hnn
  have hn1 : n1 = n := by rw [← hx.len, ← hy.len]
  subst hn1
  have h3 := hy.cap
  have h4 := hy.capm
  refine ct_of_st Tryz.func24 rfl rfl rfl rfl ?_
  have main : ∀ nb : Bool, neg1 = nb → St Tryz.prog (bodyPost Tryz.prog Tryz.f24 fun e w' => ∃ v U' D, e = .returned v ∧ ULe U U' ∧ Mem G U' (D ++ M) w' ∧ (v = .bool true ∧ U = U' ∧ D = [])) Tryz.f24.ntmps G (Tryz.f24.body.getD .skip) (argEnv 0 [(IV.mk nb p1 n1 c1).v, (IV.mk nb p n1 c).v]) U M := by
    intro nb hnb
    cases nb
    all_goals
      unfold Tryz.f24
      simp only [Option.getD_some]
      repeat (first | refine run_S ?_ | refine w_box (fun _ => ?_) | refine w_al (fun _ => ?_))
      refine st_ne rfl (fun h => absurd rfl h) (fun _ => ?_)
      repeat (first | refine run_S ?_ | refine w_box (fun _ => ?_) | refine w_al (fun _ => ?_))
      refine st_loop (fun m E U' M' => ∃ (i b2 b3 : Nat), i ≤ n1 ∧ E = [(5, .int .i64 (i : Int)), (2, .pointer (some ⟨b2, 0, none⟩)), (3, .pointer (some ⟨b3, 0, none⟩))] ∧ U = U' ∧
          M' = (b3, .var (.agg #[.bool _, .slice p n1 c]), 24) :: (b2, .var (.agg #[.bool _, .slice p1 n1 c1]), 24) :: M ∧ m = n1 - i) (n0 := n1)
        (E0 := [(5, .int .i64 ((0 : Nat) : Int)), (2, .pointer (some ⟨_, 0, none⟩)), (3, .pointer (some ⟨_, 0, none⟩))]) ⟨rfl, rfl, rfl, trivial⟩ ⟨0, _, _, by omega, rfl, rfl, rfl, rfl⟩ ?_
      rintro m E U' M' ⟨i, b2, b3, hi, rfl, rfl, rfl, rfl⟩
      try refine run_s ?_
      refine st_dec rfl (fun h5 => ?_) (fun h5 => ?_)
      · obtain ⟨d, hdd, hbd, hp1, hc1⟩ := (hx.up (U' := U) (ULe.refl _) (.cons _ (.cons _ (List.Sublist.refl _)))).get (k := i) (by omega)
        obtain ⟨d2, hdd2, hbd2, hp2, hc2⟩ := (hy.up (U' := U) (ULe.refl _) (.cons _ (.cons _ (List.Sublist.refl _)))).get (k := i) (by omega)
        rw [hdd] at hdd2
        cases hdd2
        try refine run_s ?_
        refine st_draw [0, 1, 2, 3, 4, 5, 6, 7, 8, 9, 10] sym (by kernel_rfl) ?_
        try refine run_s ?_
        refine sl_y (yl_index1 sym rfl rfl rfl rfl rfl rfl (by omega) hp1) rfl rfl rfl rfl ?_; refine sl_y (yl_loadD sym rfl rfl rfl rfl hc1) rfl rfl rfl rfl ?_
        try refine run_s ?_
        refine sl_y (yl_index1 sym rfl rfl rfl rfl rfl rfl (by omega) hp2) rfl rfl rfl rfl ?_; refine sl_y (yl_loadD sym rfl rfl rfl rfl hc2) rfl rfl rfl rfl ?_
        try refine run_s ?_
        refine st_ne rfl (fun h => absurd rfl h) (fun _ => ?_)
        try refine run_s ?_
        exact sk_again (E' := [(5, .int .i64 ((i : Int) + 1)), (2, .pointer (some ⟨b2, 0, none⟩)), (3, .pointer (some ⟨b3, 0, none⟩))]) (m := n1 - (i + 1)) ⟨rfl, rfl, rfl, trivial⟩ (by omega) ⟨i + 1, b2, b3, by omega, rfl, rfl, rfl, rfl⟩
      · try refine run_s ?_
        exact sk_ret [] sym rfl (.cons (.tmp rfl) .nil) (ULe.refl _) (.cons _ (.cons _ (List.Sublist.refl _))) (.inl rfl) ⟨rfl, rfl, rfl⟩
  exact main neg1 rfl

/-- A digit of the call's own is written. -/
theorem sl_storeO {P : Program} {T : TT} {K : Kont} {N : Nat} {E : Env} {L : List Oper} {l : List Ent} {f : Bool} {i : Nat} {o : Oper} {t v k n c : Nat} {x y : Operand} {ti : TI} {p : Option Addr} {ds : List Nat} {D X : MH} {iv : Int}
    (hS : Sym P T) (ho : o.op = .store t x y) (hx : ev E x = some (.pointer (some (elt p k)))) (hy : ev E y = some (.int .u32 iv)) (hiv : iv = (v : Int)) (hown : Own D p n c ds) (hM : M.Perm (D ++ X)) (hkn : k < n) (hv : v < 4294967296)
    (hT : lkT T t = some ti) (hs : ti.size = 1) (hg : gok L E o.guard = some true) (hk : xB f T o = true) (hd : o.dst = none) (h : ∀ D', Own D' p n c (ds.set k v) → SL P T L K N G l E U (D' ++ X)) : SL P T L K N G ((f, i, o) :: l) E U M := by
  subst hiv
  refine sl_perm ?_ hM
  cases hown with
  | nil => omega
  | @arr b _ _ _ tl hn hc hm hb ht =>
    refine sl_storeE 0 hS ho (b := b) (off := 0 + k) (tb := TU32) (r := ds.map dg ++ tl) (by rw [hx, show elt (some ⟨b, 0, none⟩) k = ⟨b, 0 + k, none⟩ from add_lit b 0 k]) (v := dg v) hy rfl hT hs (j := k) (by omega) ?_ rfl (by rw [List.length_append, List.length_map]; omega) rfl hg hk hd ?_
    · intro u hu
      rcases List.mem_append.1 hu with hu | hu
      · exact dg_size ds u hu
      · exact ht u hu
    · have := h [(b, .arr ((ds.set k v).map dg ++ tl), TU32)] (.arr (by rw [List.length_set]; exact hn) hc hm (fun d hd => by
        rcases List.mem_or_eq_of_mem_set hd with hd | hd
        · exact hb d hd
        · omega) ht)
      rw [List.map_set, ← List.set_append_left _ _ (by rw [List.length_map]; omega)] at this
      exact this

/-- append onto an empty slice without room: what there was stays as it was. -/
theorem run_appendN {P : Program} {e s bs t ty : Nat} {z : Value} {ti : TI} (hS : TI.ok P e ti) (hts : ti.size = s) (htb : ti.bytes = bs) (htz : ti.zero = z) (ht : P.underlying t = some (.slice e)) (hz : z.cells.toList.length = s) (h0 : 0 < s)
    {w : World} (hw : Mem G U M w) {a0 : Addr} {q : Option Addr} {m c' : Nat} {news : List Value} (hm : news.length = m) (hnews : ∀ v ∈ news, v.cells.toList.length = s)
    (hq : m ≠ 0 → ∃ a, q = some a ∧ ∀ j u, (flat news)[j]? = some u → w.cell? (a.add j) = some u) (hbound : m * bs ≤ 140737488355328) (h63 : m ≤ 9223372036854775807) :
    ∃ w' D' p' cc, (Builtin.append_ #[t, t] ty #[.slice (some a0) 0 0, .slice q m c']).run P w = .ok (.slice p' m cc) w' ∧ Mem G U (D' ++ M) w' ∧ ((D' = [] ∧ m = 0 ∧ p' = some a0 ∧ cc = 0) ∨ (Row e D' p' m cc news ∧ ∀ k, k ∈ D' → ∀ r, k.2.1 = .arr r → ∀ v ∈ r, v.cells.toList.length = s)) := by
  obtain ⟨inf, _, hi, hiz, hsz, hby⟩ := hS.run_info w
  have hsz' : inf.size = s := by rw [hsz, hts]
  have hby' : inf.bytes = bs := by rw [hby, htb]
  have hiz' : inf.zero = some z := by rw [hiz, htz]
  have hnl : (flat news).length = m * inf.size := by rw [flat_length hnews, hm, hsz']
  by_cases hm0 : m = 0
  · subst hm0
    refine ⟨w, [], some a0, 0, ?_, hw, .inl ⟨rfl, rfl, rfl, rfl⟩⟩
    have hf : (Builtin.firstCells inf.size 0 (.slice q 0 c')).run P w = .ok #[] w := by
      cases q with
      | none => simp [Builtin.firstCells]
      | some a => simp [Builtin.firstCells, loadCells, loadCellsFrom]
    simp [Builtin.append_, run_underlying' ht, sizeOf, typeInfo, hi, Builtin.lenOf, hf, storeCells]
  · obtain ⟨a, rfl, ha⟩ := hq hm0
    have hneed : ((0 + m : Nat) : Int) ≤ 9223372036854775807 := by omega
    have hg := grown_ok (w := w) (need := 0 + m) (old := 0) (e := e) (by omega)
    have hfitb := growslice_fits (need := 0 + m) (old := 0) (bytes := inf.bytes) (by omega) (by rw [hby', Nat.zero_add]; exact hbound)
    have hrun := run_append_grow (P := P) w t ty e inf z ht hi hiz' a0 0 0 [] (by simp) (by intro j u hu; simp at hu) a m c' (flat news) hnl ha (by omega) hneed hfitb
    simp only [Nat.zero_add] at hrun hg
    refine ⟨_, [(w.heap.size, .arr (news ++ List.replicate (grownCap w m 0 e - m) z), e)], _, _, hrun, ?_, .inr ⟨?_, ?_⟩⟩
    · rw [show (([] : List Value).toArray ++ (flat news).toArray ++ Builtin.zeroCells z.cells (grownCap w m 0 e - m)) = (flat (news ++ List.replicate (grownCap w m 0 e - m) z)).toArray by rw [zero_flat hz h0]; simp]
      exact (hw.drawn (w.drawn + 1)).alloc (.arr (news ++ List.replicate (grownCap w m 0 e - m) z)) e
    · have := Row.row (e := e) (b := w.heap.size) (n := m) (c := grownCap w m 0 e) (r := news ++ List.replicate (grownCap w m 0 e - m) z) (by omega) (by simp only [List.length_append, List.length_replicate, hm]; omega) hg.2
      rwa [List.take_append, List.take_of_length_le (by omega), hm, Nat.sub_self, List.take_zero, List.append_nil] at this
    · intro k' hk' r hr' v hv
      simp only [List.mem_singleton] at hk'
      subst hk'
      simp only [Blk.arr.injEq] at hr'
      subst hr'
      rcases List.mem_append.1 hv with hv | hv
      · exact hnews v hv
      · rw [(List.mem_replicate.1 hv).2]; exact hz

/-- append of digits onto an empty slice without room. -/
theorem sl_appendN {P : Program} {T : TT} {K : Kont} {N : Nat} {E : Env} {L : List Oper} {l : List Ent} {f : Bool} {i : Nat} {o : Oper} {d t bt bt' : Nat} {x y : Operand} {z' : Value} {a0 : Addr} {q : Option Addr} {m c' : Nat} {news : List Nat}
    (hS : Sym P T) (ho : o.op = .call { callee := .builtin .append, args := #[x, y], argTypes := #[t, t] })
    (hx : ev E x = some (.slice (some a0) 0 0)) (hy : ev E y = some (.slice q m c')) (hT : lkT T t = some ⟨.slice TU32, bt, bt', z'⟩) (he : lkT T TU32 = some ⟨.int .u32, 1, 4, .int .u32 0⟩)
    (hd2 : Dig U M q m c' news) (hbound : m ≤ 35184372088832) (hg : gok L E o.guard = some true) (hd : o.dst = some d) (hN : Nat.blt d N = true)
    (h : ∀ p' cc D', (∀ U' M', Dig U' (D' ++ M') p' m cc news) → SL P T L K N G l ((d, .slice p' m cc) :: E) U (D' ++ M)) : SL P T L K N G ((f, i, o) :: l) E U M := by
  refine .gr (R := fun v U' D => ∃ p' cc, v = .slice p' m cc ∧ U = U' ∧ ∀ U' M', Dig U' (D ++ M') p' m cc news) (.inr (by rw [ho]; rfl)) hd hN (fun M2 a w ha hw => ?_) (fun v U' D _ ⟨p', cc, h1, h2, h3⟩ => by subst h1 h2; exact h p' cc D h3)
  obtain ⟨dd, hdd, hkk⟩ := (hS.at hT).und
  have := kindOf_slice hkk
  subst this
  have hn1 := (hd2.app M2).news
  obtain ⟨w', D', p', cc, hrun, hm', hD⟩ := run_appendN (ty := o.type) (news := news.map dg) (s := 1) (bs := 4) (hS.at he) rfl rfl rfl hdd rfl (by decide) hw (a0 := a0) (c' := c') (q := q) (by rw [List.length_map, hd2.len]) (dg_size news)
    (fun h => by
      obtain ⟨a0, h1, h2⟩ := hn1 h
      exact ⟨a0, h1, fun j u hu => h2 w hw j u hu⟩) (by omega) (by omega)
  unfold wpV
  rw [gok_wanted hg ha, if_pos rfl]
  have hrun2 : (execOp a.eval o).run P w = .ok (.value (.slice p' m cc)) w' := by
    simp only [execOp, ho, resolve, List.map_toArray, List.map_cons, List.map_nil, ha.eval hx, ha.eval hy, Sem.run_bind, Sem.run_pure, Result.andThen_ok, invoke, builtin, hrun]
  rw [hrun2]
  refine ⟨U, D', ULe.refl U, hm', p', cc, rfl, rfl, fun U' M' => ?_⟩
  rcases hD with ⟨rfl, rfl, rfl, rfl⟩ | ⟨hrow, hs⟩
  · have hnil : news = [] := List.eq_nil_of_length_eq_zero (by rw [hd2.len])
    subst hnil
    exact ⟨rfl, Nat.le_refl _, by omega, fun _ h => (by cases h), fun k d h => by simp at h⟩
  · exact (Own.of_row hrow hs hd2.bd).dig

theorem sum_count {α : Type} [DecidableEq α] (x : α) : ∀ l : List α, l.count x = (l.map fun y => if y = x then 1 else 0).sum
  | [] => rfl
  | a :: l => by
    rw [List.count_cons, List.map_cons, List.sum_cons, ← sum_count x l]
    by_cases h : a = x <;> simp [h] <;> omega
/-- Two lists of the same sums are one in another order. -/
theorem perm_sum {α : Type} {a b : List α} (h : ∀ f : α → Nat, (a.map f).sum = (b.map f).sum) : a.Perm b := by
  letI : DecidableEq α := fun a b => Classical.propDecidable (a = b)
  rw [List.perm_iff_count]
  intro x
  rw [sum_count, sum_count]
  exact h _

theorem flat_pick {α : Type} {F : List (List α)} {i : Nat} {D : List α} (h : F[i]? = some D) : F.flatten.Perm (D ++ ((F.take i).flatten ++ (F.drop (i + 1)).flatten)) := by
  obtain ⟨hi, hx⟩ := List.getElem?_eq_some_iff.1 h
  have e : F = F.take i ++ D :: F.drop (i + 1) := by
    rw [← hx, List.getElem_cons_drop, List.take_append_drop]
  have e2 : F.flatten = (F.take i).flatten ++ (D ++ (F.drop (i + 1)).flatten) := by
    conv => lhs; rw [e]
    rw [List.flatten_append, List.flatten_cons]
  rw [e2]
  exact List.perm_append_comm_assoc ..
theorem flat_put {α : Type} {F : List (List α)} {i : Nat} {D : List α} (hi : i < F.length) : (F.set i D).flatten.Perm (D ++ ((F.take i).flatten ++ (F.drop (i + 1)).flatten)) := by
  have h := flat_pick (F := F.set i D) (i := i) (D := D) (by rw [List.getElem?_set_self hi])
  rwa [List.take_set_of_le (Nat.le_refl i), List.drop_set_of_lt (Nat.lt_succ_self i)] at h

/-- The rows of a list of integers, each owned: the first i are written over with their numbers, and k digits of the next one. -/
def Fam (xs : List IV) (F : List MH) (i k : Nat) : Prop := F.length = xs.length ∧ ∀ (j : Nat) (D : MH) (x : IV), F[j]? = some D → xs[j]? = some x →
  ∃ l, Own D x.p x.n x.c l ∧ (j < i → ∀ d ∈ l, d = j) ∧ (j = i → ∀ d ∈ l.take k, d = i)

theorem Fam.start {L : List (IV × MH)} (h : ∀ p ∈ L, ∃ z, p.1.own p.2 z) : Fam (L.map (·.1)) (L.map (·.2)) 0 0 := by
  refine ⟨by simp, fun j D x hD hx => ?_⟩
  rw [List.getElem?_map] at hD hx
  obtain ⟨p, hp, rfl⟩ := Option.map_eq_some_iff.1 hD
  rw [hp] at hx
  cases hx
  obtain ⟨z, l, ho, -⟩ := h p (List.mem_of_getElem? hp)
  exact ⟨l, ho, fun h => absurd h (by omega), fun _ d hd => by simp at hd⟩

theorem frame_perm {α : Type} {e : α} {B D R T W : List α} (h : W.Perm (D ++ R)) : (e :: (B ++ (W ++ T))).Perm (D ++ (e :: (B ++ (R ++ T)))) :=
  (((h.append_right T).append_left B).cons e).trans (perm_sum (by intro f; simp only [List.map_append, List.map_cons, List.sum_append, List.sum_cons]; omega))

theorem Fam.next {xs : List IV} {F : List MH} {i k : Nat} {x : IV} (h : Fam xs F i k) (hx : xs[i]? = some x) (hk : x.n ≤ k) : Fam xs F (i + 1) 0 := by
  refine ⟨h.1, fun j D y hD hy => ?_⟩
  obtain ⟨l, ho, h1, h2⟩ := h.2 j D y hD hy
  refine ⟨l, ho, fun hj d hd => ?_, fun _ d hd => by simp at hd⟩
  rcases Nat.lt_or_eq_of_le (Nat.le_of_lt_succ hj) with hj | hj
  · exact h1 hj d hd
  · subst hj
    rw [hx] at hy
    cases hy
    rw [List.take_of_length_le (by rw [ho.len.1]; exact hk)] at h2
    exact h2 rfl d hd

theorem Fam.put {xs : List IV} {F : List MH} {i k : Nat} {x : IV} (h : Fam xs F i k) (hx : xs[i]? = some x) (hk : k < x.n) :
    ∃ D l, F[i]? = some D ∧ Own D x.p x.n x.c l ∧ ∀ D', Own D' x.p x.n x.c (l.set k i) → Fam xs (F.set i D') i (k + 1) := by
  have hi : i < F.length := by rw [h.1]; exact (List.getElem?_eq_some_iff.1 hx).1
  have hD := List.getElem?_eq_getElem hi
  generalize F[i] = D at hD
  obtain ⟨l, ho, h1, h2⟩ := h.2 i D x hD hx
  refine ⟨D, l, hD, ho, fun D' hD' => ⟨by rw [List.length_set]; exact h.1, fun j E y hE hy => ?_⟩⟩
  by_cases hj : j = i
  · subst hj
    rw [List.getElem?_set_self hi] at hE
    cases hE
    rw [hx] at hy
    cases hy
    refine ⟨_, hD', fun h => absurd h (by omega), fun _ d hd => ?_⟩
    rw [List.take_add_one] at hd
    rcases List.mem_append.1 hd with hd | hd
    · rw [List.take_set_of_le (Nat.le_refl k)] at hd
      exact h2 rfl d hd
    · rw [List.getElem?_set_self (by rw [ho.len.1]; exact hk)] at hd
      simpa using hd
  · rw [List.getElem?_set_ne (by omega)] at hE
    obtain ⟨l', ho', h1', h2'⟩ := h.2 j E y hE hy
    exact ⟨l', ho', h1', fun h => absurd h hj⟩

theorem Fam.get {xs : List IV} {F : List MH} {i k n : Nat} {x : IV} {B T : MH} (h : Fam xs F n 0) (hi : i < n) (hx : xs[i]? = some x) (hk : k < x.n) :
    x.p.isSome = true ∧ ∀ (G : World) (w : World), Mem G U (B ++ (F.flatten ++ T)) w → w.cell? (elt x.p k) = some (.int .u32 (i : Int)) := by
  have hiF : i < F.length := by rw [h.1]; exact (List.getElem?_eq_some_iff.1 hx).1
  have hD := List.getElem?_eq_getElem hiF
  generalize F[i] = D at hD
  obtain ⟨l, ho, h1, -⟩ := h.2 i D x hD hx
  obtain ⟨d, hd, hb, hp, hc⟩ := (ho.dig (U := U) (M := (F.take i).flatten ++ (F.drop (i + 1)).flatten)).get hk
  have := h1 hi d (List.mem_of_getElem? hd)
  subst this
  exact ⟨hp, fun G w hw => hc G w ((hw.anti (ULe.refl U) (sub_r (List.sublist_append_left ..))).perm (flat_pick hD))⟩

theorem Fam.size {xs : List IV} {F : List MH} {i k n : Nat} {x : IV} (h : Fam xs F n k) (hx : xs[i]? = some x) : x.n ≤ 9223372036854775807 := by
  have hiF : i < F.length := by rw [h.1]; exact (List.getElem?_eq_some_iff.1 hx).1
  obtain ⟨l, ho, -⟩ := h.2 i _ x (List.getElem?_eq_getElem hiF) hx
  have := ho.len
  omega

end Go.Proofs.YtcndgdjelopmaaaGreat
