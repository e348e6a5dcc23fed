/- For the law of layer 2 on memory: copies; rows of digits that are written over. -/
import Derived.Test.YtcndgdjelopmaaaB75
import Derived.Test.YtcndgdjelopmaaaM11
namespace Go.Proofs.Ytcndgdjelopmaaa
open Go.Hp
variable {G : World} {U : UH} {M : MH}

/-- A struct whose cells are known. -/
theorem yl_loadHs {P : Program} {T : TT} {N : Nat} {E : Env} {o : Oper} {t : Nat} {x : Operand} {a : Addr} {cs : List Value} {i : TI} {fs : List (Nat × Nat)} (hS : Sym P T) (ho : o.op = .load t x) (hx : ev E x = some (.pointer (some a))) (hT : lkT T t = some i) (hk : i.k = .struct fs) (hn : cs.length = i.size)
    (hv : ∀ (G : World) (w : World), Mem G U M w → ∀ j v, cs[j]? = some v → w.cell? (a.add j) = some v) : Yl P N G o E U M (.agg cs.toArray) :=
  yl_load_of ho hx fun w hw => run_loadVar_struct (hS.at hT) hk hn (hv G w hw)

theorem bCopyInt_ct {x : IV} {l : List Nat} (hd : Dig U M x.p x.n x.c l) (hn : x.n ≤ 1000000) :
    Ct Try.prog 82 [x.v] G U M fun v U' D => ∃ p c, v = (IV.mk x.neg p x.n c).v ∧ (∀ U' M', Dig U' (D ++ M') p x.n c l) ∧ U = U' := by
  obtain ⟨neg, p, n, c⟩ := x
  simp only at hd hn
  change Ct _ _ [Value.agg #[.bool neg, .slice p n c]] G U M _
  refine ct_of_st Try.func82 rfl rfl rfl rfl ?_
  repeat (first | refine run_S ?_ | refine w_box (fun _ => ?_) | refine w_al (fun _ => ?_))
  refine st_draw [0, 1, 3, 4, 2, 5, 6, 7] sym (by kernel_rfl) ?_
  repeat (first | refine run_S ?_ | refine w_box (fun _ => ?_) | refine w_al (fun _ => ?_))
  refine sl_bslice (vs := []) sym rfl rfl rfl rfl rfl rfl (by intro v hv; cases hv) rfl rfl rfl rfl rfl rfl (fun be => ?_)
  repeat (first | refine run_S ?_ | refine w_box (fun _ => ?_) | refine w_al (fun _ => ?_))
  refine sl_appendN sym rfl rfl rfl rfl rfl (hd.up (ULe.refl _) sb) (by omega) rfl rfl rfl (fun p1 c1 D1 hx1 => ?_)
  refine sl_perm ?_ (perm3 (D := D1))
  repeat (first | refine run_S ?_ | refine w_box (fun _ => ?_) | refine w_al (fun _ => ?_))
  exact sk_ret D1 sym rfl (.cons (.cell 1 rfl rfl rfl) .nil) (ULe.refl _) sb (.inl rfl) ⟨p1, c1, rfl, hx1, rfl⟩

theorem bCopyRat_ct {x : QV} {l1 l2 : List Nat} (hd1 : Dig U M x.num.p x.num.n x.num.c l1) (hn1 : x.num.n ≤ 1000000) (hd2 : Dig U M x.den.p x.den.n x.den.c l2) (hn2 : x.den.n ≤ 1000000) :
    Ct Try.prog 44 [x.v] G U M fun v U' D => ∃ p c p' c', v = (QV.mk (IV.mk x.num.neg p x.num.n c) (IV.mk x.den.neg p' x.den.n c')).v ∧ (∀ U' M', Dig U' (D ++ M') p x.num.n c l1 ∧ Dig U' (D ++ M') p' x.den.n c' l2) ∧ U = U' := by
  refine ct_of_st Try.func44 rfl rfl rfl rfl ?_
  repeat (first | refine run_S ?_ | refine w_box (fun _ => ?_) | refine w_al (fun _ => ?_))
  refine st_draw [0, 1, 3, 4, 2, 5, 6, 7] sym (by kernel_rfl) ?_
  repeat (first | refine run_S ?_ | refine w_box (fun _ => ?_) | refine w_al (fun _ => ?_))
  refine sl_call rfl rfl rfl rfl rfl rfl (fun _ => bCopyInt_ct (x := x.num) (hd1.up (ULe.refl _) sb) hn1) ?_
  rintro v U1 D1 hU ⟨p, c, rfl, h1, rfl⟩
  refine sl_perm ?_ (perm2 (D := D1))
  repeat (first | refine run_S ?_ | refine w_box (fun _ => ?_) | refine w_al (fun _ => ?_))
  refine sl_call rfl rfl rfl rfl rfl rfl (fun _ => bCopyInt_ct (x := x.den) (hd2.up (ULe.refl _) sb) hn2) ?_
  rintro v U1 D2 hU ⟨p', c', rfl, h2, rfl⟩
  refine sl_perm ?_ (perm2 (D := D2))
  repeat (first | refine run_S ?_ | refine w_box (fun _ => ?_) | refine w_al (fun _ => ?_))
  exact sk_ret (D2 ++ D1) sym rfl (.cons (.cell 0 rfl rfl rfl) .nil) (ULe.refl _) sb (.inl rfl) ⟨p, c, p', c', rfl, fun U' M' => ⟨(h1 U' M').up (ULe.refl _) sb, (h2 U' M').up (ULe.refl _) sb⟩, rfl⟩

/-- All digits of a row of the call's own are written over. -/
theorem fill_cx {x : IV} {v : Nat} {ds : List Nat} {D X : MH} (ho : Own D x.p x.n x.c ds) (hv : v < 4294967296) :
    Cx Try.prog 45 [x.v, .int .i64 (v : Int)] G U (D ++ X) fun _ U' M' => U' = U ∧ ∃ D' ds', M' = D' ++ X ∧ Own D' x.p x.n x.c ds' ∧ ∀ d ∈ ds', d = v := by
  obtain ⟨neg, p, n, c⟩ := x
  simp only at ho
  have hol := ho.len
  change Cx _ _ [Value.agg #[.bool neg, .slice p n c], .int .i64 (v : Int)] G U (D ++ X) _
  refine cx_of_st Try.func45 rfl rfl rfl rfl ?_
  repeat (first | refine run_S ?_ | refine w_box (fun _ => ?_) | refine w_al (fun _ => ?_))
  rename_i b2
  refine st_loop (fun m E U' M' => ∃ (k : Nat) (D' : MH) (ds' : List Nat), k ≤ n ∧ Own D' p n c ds' ∧ (∀ d ∈ ds'.take k, d = v) ∧ E = [(4, .int .i64 (k : Int)), (2, .pointer (some ⟨b2, 0, none⟩)), (1, .int .i64 (v : Int))] ∧ U' = U ∧
      M' = (b2, .var (.agg #[.bool neg, .slice p n c]), 24) :: (D' ++ X) ∧ m = n - k) (n0 := n)
    (E0 := [(4, .int .i64 ((0 : Nat) : Int)), (2, .pointer (some ⟨b2, 0, none⟩)), (1, .int .i64 (v : Int))]) ⟨rfl, rfl, rfl, trivial⟩ ⟨0, D, ds, by omega, ho, (fun d hd => by simp at hd), rfl, rfl, rfl, rfl⟩ ?_
  clear ho hol
  rintro m E U' M' ⟨k, D', ds', hk, ho, hall, rfl, rfl, rfl, rfl⟩
  have hol := ho.len
  try refine run_s ?_
  refine st_dec rfl (fun h1 => ?_) (fun h1 => ?_)
  · have hp : p.isSome = true := by
      cases ho with
      | nil => omega
      | arr => rfl
    try refine run_s ?_
    refine sl_y (yl_index1 (j := k) sym rfl rfl rfl rfl rfl rfl (by omega) hp) rfl rfl rfl rfl ?_
    refine sl_storeO (v := v) sym rfl rfl rfl rfl ho perm1.symm (by omega) hv rfl rfl rfl rfl rfl (fun D2 hD2 => ?_)
    refine sl_perm ?_ (perm1 (D := D2))
    try refine run_s ?_
    refine sk_again (E' := [(4, .int .i64 ((k : Int) + 1)), (2, .pointer (some ⟨b2, 0, none⟩)), (1, .int .i64 (v : Int))]) (m := n - (k + 1)) ⟨rfl, rfl, rfl, trivial⟩ (by omega) ⟨k + 1, D2, ds'.set k v, by omega, hD2, fun d hd => ?_, rfl, rfl, rfl, rfl⟩
    rw [List.take_add_one] at hd
    rcases List.mem_append.1 hd with hd | hd
    · rw [List.take_set_of_le (Nat.le_refl k)] at hd
      exact hall d hd
    · rw [List.getElem?_set_self (by omega)] at hd
      simpa using hd
  · try refine run_s ?_
    rw [List.take_of_length_le (by omega)] at hall
    exact sk_retX sym rfl .nil (ULe.refl _) (M' := D' ++ X) sb (.inr rfl) ⟨rfl, D', ds', rfl, ho, hall⟩

/-- They read so afterwards. -/
theorem filled_ct {x : IV} {v : Nat} {ds : List Nat} (hd : Dig U M x.p x.n x.c ds) (hall : ∀ d ∈ ds, d = v) (hv : v < 4294967296) :
    Ct Try.prog 46 [x.v, .int .i64 (v : Int)] G U M fun r U' D => r = .bool true ∧ U = U' ∧ D = [] := by
  obtain ⟨neg, p, n, c⟩ := x
  simp only at hd
  have h3 := hd.cap
  have h4 := hd.capm
  change Ct _ _ [Value.agg #[.bool neg, .slice p n c], .int .i64 (v : Int)] G U M _
  refine ct_of_st Try.func46 rfl rfl rfl rfl ?_
  repeat (first | refine run_S ?_ | refine w_box (fun _ => ?_) | refine w_al (fun _ => ?_))
  rename_i b2
  refine st_loop (fun m E U' M' => ∃ (k : Nat), k ≤ n ∧ E = [(5, .int .i64 (k : Int)), (2, .pointer (some ⟨b2, 0, none⟩)), (1, .int .i64 (v : Int))] ∧ U' = U ∧
      M' = (b2, .var (.agg #[.bool neg, .slice p n c]), 24) :: M ∧ m = n - k) (n0 := n)
    (E0 := [(5, .int .i64 ((0 : Nat) : Int)), (2, .pointer (some ⟨b2, 0, none⟩)), (1, .int .i64 (v : Int))]) ⟨rfl, rfl, rfl, trivial⟩ ⟨0, by omega, rfl, rfl, rfl, rfl⟩ ?_
  rintro m E U' M' ⟨k, hk, rfl, rfl, rfl, rfl⟩
  try refine run_s ?_
  refine st_dec rfl (fun h1 => ?_) (fun h1 => ?_)
  · obtain ⟨d, hdd, hbd, hp, hc⟩ := (hd.up (ULe.refl _) (M' := (b2, .var (.agg #[.bool neg, .slice p n c]), 24) :: M) sb).get (k := k) (by omega)
    have := hall d (List.mem_of_getElem? hdd)
    subst this
    try refine run_s ?_
    refine sl_y (yl_index1 sym rfl rfl rfl rfl rfl rfl (by omega) hp) rfl rfl rfl rfl ?_; refine sl_y (yl_loadD sym rfl rfl rfl rfl hc) rfl rfl rfl rfl ?_
    try refine run_s ?_
    refine st_ne rfl (fun h => absurd rfl h) (fun _ => ?_)
    try refine run_s ?_
    exact sk_again (E' := [(5, .int .i64 ((k : Int) + 1)), (2, .pointer (some ⟨b2, 0, none⟩)), (1, .int .i64 (d : Int))]) (m := n - (k + 1)) ⟨rfl, rfl, rfl, trivial⟩ (by omega) ⟨k + 1, by omega, rfl, rfl, rfl, rfl⟩
  · repeat (first | refine run_S ?_ | refine w_box (fun _ => ?_) | refine w_al (fun _ => ?_))
    exact sk_ret [] sym rfl (.cons (.tmp rfl) .nil) (ULe.refl _) sb (.inl rfl) ⟨rfl, rfl, rfl⟩

/-! ### the family of rows -/
/-- With what the j-th row is written over. -/
def vf (j : Nat) : Nat := if j % 2 = 0 then j / 2 else j / 2 + 100
/-- The rows of a list of integers, each owned; the first m are written over. -/
def Fml (xs : List IV) (F : List MH) (m : Nat) : Prop := F.length = xs.length ∧ ∀ (j : Nat) (D : MH) (x : IV), F[j]? = some D → xs[j]? = some x → ∃ l, Own D x.p x.n x.c l ∧ (j < m → ∀ d ∈ l, d = vf j)

theorem Fml.start {L : List (IV × MH)} (h : ∀ p ∈ L, ∃ z, p.1.own p.2 z) : Fml (L.map (·.1)) (L.map (·.2)) 0 := by
  refine ⟨by simp, fun j D x hD hx => ?_⟩
  rw [List.getElem?_map] at hD hx
  obtain ⟨p, hp, rfl⟩ := Option.map_eq_some_iff.1 hD
  rw [hp] at hx
  cases hx
  obtain ⟨z, l, ho, -⟩ := h p (List.mem_of_getElem? hp)
  exact ⟨l, ho, fun h => absurd h (by omega)⟩

theorem Fml.put {xs : List IV} {F : List MH} {m : Nat} {x : IV} (h : Fml xs F m) (hx : xs[m]? = some x) :
    ∃ D l, F[m]? = some D ∧ Own D x.p x.n x.c l ∧ ∀ D' l', Own D' x.p x.n x.c l' → (∀ d ∈ l', d = vf m) → Fml xs (F.set m D') (m + 1) := by
  have hi : m < F.length := by rw [h.1]; exact (List.getElem?_eq_some_iff.1 hx).1
  have hD := List.getElem?_eq_getElem hi
  generalize F[m] = D at hD
  obtain ⟨l, ho, h1⟩ := h.2 m D x hD hx
  refine ⟨D, l, hD, ho, fun D' l' hD' hl' => ⟨by rw [List.length_set]; exact h.1, fun j E y hE hy => ?_⟩⟩
  by_cases hj : j = m
  · subst hj
    rw [List.getElem?_set_self hi] at hE
    cases hE
    rw [hx] at hy
    cases hy
    exact ⟨_, hD', fun _ => hl'⟩
  · rw [List.getElem?_set_ne (by omega)] at hE
    obtain ⟨l', ho', h1'⟩ := h.2 j E y hE hy
    exact ⟨l', ho', fun h => h1' (by omega)⟩

theorem Fml.get {xs : List IV} {F : List MH} {m i : Nat} {x : IV} {B T : MH} (h : Fml xs F m) (hi : i < m) (hx : xs[i]? = some x) :
    ∃ l, Dig U (B ++ (F.flatten ++ T)) x.p x.n x.c l ∧ ∀ d ∈ l, d = vf i := by
  have hiF : i < F.length := by rw [h.1]; exact (List.getElem?_eq_some_iff.1 hx).1
  have hD := List.getElem?_eq_getElem hiF
  generalize F[i] = D at hD
  obtain ⟨l, ho, h1⟩ := h.2 i D x hD hx
  have hdg := ho.dig (U := U) (M := (F.take i).flatten ++ (F.drop (i + 1)).flatten)
  refine ⟨l, ⟨hdg.len, hdg.cap, hdg.capm, hdg.bd, fun k d hk => ⟨(hdg.cell k d hk).1, fun G w hw => (hdg.cell k d hk).2 G w ((hw.anti (ULe.refl U) (sub_r (List.sublist_append_left ..))).perm (flat_pick hD))⟩⟩, h1 hi⟩

end Go.Proofs.Ytcndgdjelopmaaa
