/- Digits in memory, and integers as the program's structs. -/
import Derived.Test.YtcakainebimmdaaT
import Derived.Test.YtcakainebimmdaaHa
import Derived.Test.YtcakainebimmdaaN
namespace Go.Proofs.Ytcakainebimmdaa
open Go.Hp

def dg (d : Nat) : Value := .int .u32 (d : Int)
abbrev TU32 : Nat := 56

/-- A slice of digits that may be read. -/
structure Dig (U : UH) (M : MH) (p : Option Addr) (n c : Nat) (l : List Nat) : Prop where
  len : l.length = n
  cap : n ≤ c
  capm : c ≤ 9223372036854775807
  bd : Bd l
  cell : ∀ (k d : Nat), l[k]? = some d → p.isSome = true ∧ ∀ (G : World) (w : World), Mem G U M w → w.cell? (elt p k) = some (.int .u32 (d : Int))

theorem Dig.get {U : UH} {M : MH} {p : Option Addr} {n c : Nat} {l : List Nat} (h : Dig U M p n c l) {k : Nat} (hk : k < n) :
    ∃ d, l[k]? = some d ∧ d < 4294967296 ∧ p.isSome = true ∧ ∀ (G : World) (w : World), Mem G U M w → w.cell? (elt p k) = some (.int .u32 (d : Int)) := by
  have h1 : k < l.length := by rw [h.len]; exact hk
  have h2 := List.getElem?_eq_getElem h1
  exact ⟨_, h2, h.bd _ (List.mem_of_getElem? h2), h.cell _ _ h2⟩

theorem Dig.up {U U' : UH} {M M' : MH} {p : Option Addr} {n c : Nat} {l : List Nat} (h : Dig U M p n c l) (hU : ULe U U') (hM : M.Sublist M') : Dig U' M' p n c l :=
  ⟨h.len, h.cap, h.capm, h.bd, fun k d hk => ⟨(h.cell k d hk).1, fun G w hw => (h.cell k d hk).2 G w (hw.anti hU hM)⟩⟩
theorem Dig.app {U : UH} {M : MH} {p : Option Addr} {n c : Nat} {l : List Nat} (h : Dig U M p n c l) (M2 : MH) : Dig U (M2 ++ M) p n c l :=
  h.up (ULe.refl U) (List.sublist_append_right ..)
theorem Dig.take {U : UH} {M : MH} {p : Option Addr} {n c : Nat} {l : List Nat} (h : Dig U M p n c l) {k : Nat} (hk : k ≤ n) : Dig U M p k c (l.take k) :=
  ⟨by rw [List.length_take, h.len]; omega, Nat.le_trans hk h.cap, h.capm, bd_take h.bd k, fun j d hj => by
    rw [List.getElem?_take] at hj
    split at hj
    · exact h.cell j d hj
    · cases hj⟩
theorem Dig.tl {U : UH} {M : MH} {p : Option Addr} {n c : Nat} {l : List Nat} (h : Dig U M p n c l) : Dig U M p (Hp.tl l).length c (Hp.tl l) := by
  have h1 := h.take (k := (Hp.tl l).length) (by rw [← h.len]; exact tl_length_le l)
  rwa [← tl_take] at h1
theorem Dig.nil {U : UH} {M : MH} : Dig U M none 0 0 [] := ⟨rfl, Nat.le_refl _, by omega, fun _ h => (by cases h), fun k d h => (by simp at h)⟩

theorem flat_dg (r : List Nat) : (r.map dg).flatMap (fun v => v.cells.toList) = r.map dg := by
  induction r with
  | nil => rfl
  | cons d r ih => rw [List.map_cons, List.flatMap_cons, ih]; rfl

theorem dg_size (r : List Nat) : ∀ u ∈ r.map dg, u.cells.toList.length = 1 := by
  intro u hu
  obtain ⟨d, _, rfl⟩ := List.mem_map.1 hu
  rfl

/-- A slice of digits that the call has made: nil, or the head of an owned row (whatever lies in its spare room). -/
inductive Own : MH → Option Addr → Nat → Nat → List Nat → Prop where
  | nil : Own [] none 0 0 []
  | arr {b n c : Nat} {r : List Nat} {t : List Value} (hn : r.length = n) (hc : n + t.length = c) (hm : c ≤ 9223372036854775807) (hb : Bd r) (ht : ∀ v ∈ t, v.cells.toList.length = 1) : Own [(b, .arr (r.map dg ++ t), TU32)] (some ⟨b, 0, none⟩) n c r

theorem Own.row {b n c : Nat} {r : List Nat} (hn : n ≤ c) (hc : r.length = c) (hm : c ≤ 9223372036854775807) (hb : Bd r) : Own [(b, .arr (r.map dg), TU32)] (some ⟨b, 0, none⟩) n c (r.take n) := by
  have h := Own.arr (b := b) (n := n) (c := c) (r := r.take n) (t := (r.drop n).map dg) (by rw [List.length_take, hc]; omega) (by rw [List.length_map, List.length_drop, hc]; omega) hm (bd_take hb n) (dg_size _)
  rwa [← List.map_append, List.take_append_drop] at h

theorem cell_row {r : List Nat} {t : List Value} {k d : Nat} (hk : r[k]? = some d) : (Blk.arr (r.map dg ++ t)).cells[k]? = some (.int .u32 (d : Int)) := by
  have h1 : k < (r.map dg).length := by rw [List.length_map]; exact (List.getElem?_eq_some_iff.1 hk).1
  simp only [Blk.cells, List.getElem?_toArray, List.flatMap_append]
  rw [flat_dg, List.getElem?_append_left h1, List.getElem?_map, hk]; rfl

theorem dig_row {U : UH} {M : MH} {b n c i : Nat} {r : List Nat} {t : List Value} (hM : M[i]? = some (b, .arr (r.map dg ++ t), TU32)) (hn : r.length = n) (hc : n + t.length = c) (hm : c ≤ 9223372036854775807) (hb : Bd r) : Dig U M (some ⟨b, 0, none⟩) n c r := by
  refine ⟨hn, by omega, hm, hb, fun k d hk => ⟨rfl, fun G w hw => ?_⟩⟩
  simp only [elt, Option.getD_some, add_lit, Nat.zero_add]
  rw [hw.cellM hM]
  exact cell_row hk

theorem Own.dig {U : UH} {M D : MH} {p : Option Addr} {n c : Nat} {l : List Nat} (h : Own D p n c l) : Dig U (D ++ M) p n c l := by
  cases h with
  | nil => exact Dig.nil
  | arr hn hc hm hb ht => exact dig_row (i := 0) rfl hn hc hm hb

theorem Own.len {D : MH} {p : Option Addr} {n c : Nat} {l : List Nat} (h : Own D p n c l) : l.length = n ∧ n ≤ c ∧ c ≤ 9223372036854775807 := by
  cases h with
  | nil => exact ⟨rfl, Nat.le_refl _, by omega⟩
  | arr hn hc hm hb ht => exact ⟨hn, by omega, hm⟩

theorem Own.take {D : MH} {p : Option Addr} {n c : Nat} {l : List Nat} (h : Own D p n c l) {k : Nat} (hk : k ≤ n) : Own D p k c (l.take k) := by
  cases h with
  | nil =>
    have : k = 0 := by omega
    subst this; exact Own.nil
  | @arr b n c r t hn hc hm hb ht =>
    have h := Own.arr (b := b) (n := k) (c := c) (r := l.take k) (t := (l.drop k).map dg ++ t) (by rw [List.length_take]; omega) (by rw [List.length_append, List.length_map, List.length_drop]; omega) hm (bd_take hb k) (fun v hv => by
      rcases List.mem_append.1 hv with hv | hv
      · exact dg_size _ v hv
      · exact ht v hv)
    rwa [← List.append_assoc, ← List.map_append, List.take_append_drop] at h
theorem Own.tl {D : MH} {p : Option Addr} {n c : Nat} {l : List Nat} (h : Own D p n c l) : Own D p (Hp.tl l).length c (Hp.tl l) := by
  have h1 := h.take (k := (Hp.tl l).length) (by rw [← h.len.1]; exact tl_length_le l)
  rwa [← tl_take] at h1

/-- What is owned is settled: it may be read ever after. -/
theorem Own.settle {G : World} {U : UH} {M D : MH} {p : Option Addr} {n c : Nat} {l : List Nat} {w : World} (h : Own D p n c l) (hw : Mem G U (D ++ M) w) : ∃ U', ULe U U' ∧ Mem G U' M w ∧ Dig U' [] p n c l := by
  cases h with
  | nil => exact ⟨U, ULe.refl U, hw, Dig.nil⟩
  | @arr b n c r t hn hc hm hb ht =>
    obtain ⟨h1, h2⟩ := hw.settle
    refine ⟨_, h1, h2, hn, by omega, hm, hb, fun k d hk => ⟨rfl, fun G w hw => hw.cellU ?_⟩⟩
    simp only [elt, Option.getD_some, add_lit, Nat.zero_add]
    rw [UH.cell_upd]
    exact cell_row hk

/-- What append has made of digits. -/
theorem Own.of_row {D : MH} {p : Option Addr} {n c : Nat} {l : List Nat} (h : Row TU32 D p n c (l.map dg)) (hr : ∀ k, k ∈ D → ∀ r, k.2.1 = .arr r → ∀ v ∈ r, v.cells.toList.length = 1) (hb : Bd l) : Own D p n c l := by
  generalize hv : l.map dg = vl at h
  cases h with
  | nil =>
    have : l = [] := by simpa using hv
    subst this; exact Own.nil
  | @row b n c r hn hc hm =>
    have h := Own.arr (b := b) (n := n) (c := c) (r := l) (t := r.drop n) (by
      have := congrArg List.length hv
      rw [List.length_map, List.length_take, hc] at this; omega) (by rw [List.length_drop, hc]; omega) hm hb (fun v hv => hr _ (List.mem_singleton.2 rfl) r rfl v (List.mem_of_mem_drop hv))
    rwa [hv, List.take_append_drop] at h

theorem Dig.news {U : UH} {M : MH} {p : Option Addr} {n c : Nat} {l : List Nat} (h : Dig U M p n c l) : n ≠ 0 → ∃ a, p = some a ∧ ∀ {G : World} (w : World), Mem G U M w → ∀ j u, (flat (l.map dg))[j]? = some u → w.cell? (a.add j) = some u := by
  intro hn
  obtain ⟨d, hd, _, hp, _⟩ := h.get (k := 0) (by omega)
  obtain ⟨a, rfl⟩ := Option.isSome_iff_exists.1 hp
  refine ⟨a, rfl, fun {G} w hw j u hu => ?_⟩
  unfold flat at hu
  rw [flat_dg, List.getElem?_map] at hu
  cases hj : l[j]? with
  | none => rw [hj] at hu; cases hu
  | some d =>
    rw [hj] at hu
    have := (h.cell j d hj).2 G w hw
    simp only [Option.map_some, Option.some.injEq] at hu
    subst hu
    exact this
theorem dg_one (l : List Nat) : ∀ u ∈ flat (l.map dg), u.oneCell' = true := by
  intro u hu
  unfold flat at hu
  rw [flat_dg] at hu
  obtain ⟨d, _, rfl⟩ := List.mem_map.1 hu
  rfl

/-! ### integers -/
structure IV where
  neg : Bool
  p : Option Addr
  n : Nat
  c : Nat
def IV.v (x : IV) : Value := .agg #[.bool x.neg, .slice x.p x.n x.c]

def sg (neg : Bool) (m : Nat) : Int := if neg then -(m : Int) else (m : Int)

/-- The digits that an integer has. -/
def IV.dig (x : IV) (U : UH) (M : MH) (l : List Nat) : Prop := Dig U M x.p x.n x.c l
/-- x stands for z, with whatever leading zeros. -/
def IV.rep (x : IV) (U : UH) (M : MH) (z : Int) : Prop := ∃ l, Dig U M x.p x.n x.c l ∧ z = sg x.neg (val l)
/-- x stands for z and is normalized. -/
def IV.nrm (x : IV) (U : UH) (M : MH) (z : Int) : Prop := ∃ l, Dig U M x.p x.n x.c l ∧ Cn l ∧ val l = z.natAbs ∧ x.neg = decide (z < 0)
/-- x is normalized, stands for z, and its digits are the call's own. -/
def IV.own (x : IV) (D : MH) (z : Int) : Prop := ∃ l, Own D x.p x.n x.c l ∧ Cn l ∧ val l = z.natAbs ∧ x.neg = decide (z < 0)

theorem IV.rep.up {x : IV} {U U' : UH} {M M' : MH} {z : Int} (h : x.rep U M z) (hU : ULe U U') (hM : M.Sublist M') : x.rep U' M' z := by
  obtain ⟨l, h1, h2⟩ := h; exact ⟨l, h1.up hU hM, h2⟩
theorem IV.nrm.up {x : IV} {U U' : UH} {M M' : MH} {z : Int} (h : x.nrm U M z) (hU : ULe U U') (hM : M.Sublist M') : x.nrm U' M' z := by
  obtain ⟨l, h1, h2⟩ := h; exact ⟨l, h1.up hU hM, h2⟩
theorem IV.nrm.rep {x : IV} {U : UH} {M : MH} {z : Int} (h : x.nrm U M z) : x.rep U M z := by
  obtain ⟨l, h1, h2, h3, h4⟩ := h
  refine ⟨l, h1, ?_⟩
  rw [h3, h4]
  unfold sg
  by_cases hz : z < 0
  · simp [hz]; omega
  · simp [hz]; omega
theorem IV.own.nrm {x : IV} {D : MH} {z : Int} (h : x.own D z) {U : UH} {M : MH} : x.nrm U (D ++ M) z := by
  obtain ⟨l, h1, h2⟩ := h; exact ⟨l, h1.dig, h2⟩

/-- A contract whose result is the call's own serves as one whose result is settled. -/
theorem ct_settle {P : Program} {f : Nat} {args : List Value} {G : World} {U : UH} {M : MH} {z : Int} (h : Ct P f args G U M fun v _ D => ∃ x : IV, v = x.v ∧ x.own D z) :
    Ct P f args G U M fun v U' D => D = [] ∧ ∃ x : IV, v = x.v ∧ x.nrm U' [] z := by
  refine ⟨h.callable, fun w hw => (h.calls w hw).mono ?_⟩
  rintro e w' ⟨v, U', D, h1, h2, h3, x, rfl, l, h4, h5⟩
  obtain ⟨U2, h6, h7, h8⟩ := h4.settle h3
  exact ⟨x.v, U2, [], h1, h2.trans h6, h7, rfl, x, rfl, l, h8, h5⟩

theorem yl_loadD {P : Program} {T : TT} {N : Nat} {G : World} {E : Env} {U : UH} {M : MH} {o : Oper} {t : Nat} {x : Operand} {a : Addr} {d : Nat} {i : TI} (hS : Sym P T) (ho : o.op = .load t x) (hx : ev E x = some (.pointer (some a))) (hT : lkT T t = some i) (hk : one i.k = true)
    (hv : ∀ (G : World) (w : World), Mem G U M w → w.cell? a = some (.int .u32 (d : Int))) : Yl P N G o E U M (.int .u32 (d : Int)) :=
  yl_load_of ho hx fun w hw => run_loadVar_one (hS.at hT) hk (hv G w hw)

/-- A digit of a row of the call's own is read. -/
theorem yl_loadMD {P : Program} {T : TT} {N : Nat} {G : World} {E : Env} {U : UH} {M : MH} {o : Oper} {t b j tb off d : Nat} {x : Operand} {r : List Nat} {ti : TI} (m : Nat) (hS : Sym P T) (ho : o.op = .load t x) (hx : ev E x = some (.pointer (some ⟨b, off, none⟩)))
    (hM : nth M m = some (b, .arr (r.map dg), tb)) (hT : lkT T t = some ti) (hk : one ti.k = true) (hoff : off = j) (hd : r[j]? = some d) : Yl P N G o E U M (.int .u32 (d : Int)) := by
  subst hoff
  exact yl_loadE1 (j := off) m hS ho (by rw [hx]; simp) hM hT hk (dg_size r) (v := dg d) (by rw [List.getElem?_map, hd]; rfl) rfl

/-- A digit of a row of the call's own is written. -/
theorem sl_storeD {P : Program} {T : TT} {K : Kont} {N : Nat} {G : World} {E : Env} {U : UH} {M : MH} {L : List Oper} {l : List Ent} {f : Bool} {i : Nat} {o : Oper} {t b j tb off : Nat} {x y : Operand} {v : Nat} {r : List Nat} {ti : TI} (m : Nat) (hS : Sym P T) (ho : o.op = .store t x y) (hx : ev E x = some (.pointer (some ⟨b, off, none⟩))) {iv : Int} (hy : ev E y = some (.int .u32 iv)) (hiv : iv = (v : Int))
    (hM : nth M m = some (b, .arr (r.map dg), tb)) (hT : lkT T t = some ti) (hs : ti.size = 1) (hoff : off = j) (hj : j < r.length)
    (hg : gok L E o.guard = some true) (hk : xB f T o = true) (hd : o.dst = none) (h : SL P T L K N G l E U (M.set m (b, .arr ((r.set j v).map dg), tb))) : SL P T L K N G ((f, i, o) :: l) E U M := by
  subst hiv
  refine sl_storeE m hS ho hx (v := dg v) hy hM hT hs (j := j) (by omega) (dg_size r) rfl (by simpa using hj) rfl hg hk hd ?_
  rw [← List.map_set]; exact h

end Go.Proofs.Ytcakainebimmdaa
