/- Bytes of the call's own: append, elements, conversion to a string. -/
import Derived.Test.YtcakainebimmdaaHq
import Derived.Laws.IdiomStrings
import Derived.WideShapes
namespace Go.Proofs.Ytcakainebimmdaa
open Go.Hp

def by8 (d : Nat) : Value := .int .u8 (d : Int)
abbrev TU8 : Nat := 5

theorem flat_by (r : List Nat) : (r.map by8).flatMap (fun v => v.cells.toList) = r.map by8 := by
  induction r with
  | nil => rfl
  | cons d r ih => rw [List.map_cons, List.flatMap_cons, ih]; rfl
theorem by_size (r : List Nat) : ∀ u ∈ r.map by8, u.cells.toList.length = 1 := by
  intro u hu
  obtain ⟨d, _, rfl⟩ := List.mem_map.1 hu
  rfl
theorem by_sizes {r : List Nat} {t : List Value} (ht : ∀ v ∈ t, v.cells.toList.length = 1) : ∀ u ∈ r.map by8 ++ t, u.cells.toList.length = 1 := fun v hv => by
  rcases List.mem_append.1 hv with h | h
  · exact by_size _ v h
  · exact ht v h

/-- A slice of bytes that the call has made. -/
inductive OwnB : MH → Option Addr → Nat → Nat → List Nat → Prop where
  | nil : OwnB [] none 0 0 []
  | arr {b n c : Nat} {r : List Nat} {t : List Value} (hn : r.length = n) (hc : n + t.length = c) (hm : c ≤ 9223372036854775807) (hb : ∀ d ∈ r, d < 256) (ht : ∀ v ∈ t, v.cells.toList.length = 1) : OwnB [(b, .arr (r.map by8 ++ t), TU8)] (some ⟨b, 0, none⟩) n c r

theorem OwnB.len {D : MH} {p : Option Addr} {n c : Nat} {l : List Nat} (h : OwnB D p n c l) : l.length = n ∧ n ≤ c ∧ c ≤ 9223372036854775807 := by
  cases h with
  | nil => exact ⟨rfl, Nat.le_refl _, by omega⟩
  | arr hn hc hm hb ht => exact ⟨hn, by omega, hm⟩
theorem OwnB.lt {D : MH} {p : Option Addr} {n c : Nat} {l : List Nat} (h : OwnB D p n c l) : ∀ d ∈ l, d < 256 := by
  cases h with
  | nil => intro d hd; cases hd
  | arr hn hc hm hb ht => exact hb

theorem cell_rowB {r : List Nat} {t : List Value} {k d : Nat} (hk : r[k]? = some d) : (Blk.arr (r.map by8 ++ t)).cells[k]? = some (.int .u8 (d : Int)) := by
  have h1 : k < (r.map by8).length := by rw [List.length_map]; exact (List.getElem?_eq_some_iff.1 hk).1
  simp only [Blk.cells, List.getElem?_toArray, List.flatMap_append]
  rw [flat_by, List.getElem?_append_left h1, List.getElem?_map, hk]; rfl

/-- One byte is appended; it stands in a row of its own behind D. -/
theorem sl_append1B {P : Program} {T : TT} {K : Kont} {N : Nat} {G : World} {E : Env} {U : UH} {M : MH} {L : List Oper} {l : List Ent} {f : Bool} {i : Nat} {o : Oper} {d t bt bt' bo v tb : Nat} {x y : Operand} {z' : Value} {D X : MH} {p : Option Addr} {n c : Nat} {vl : List Nat}
    (hS : Sym P T) (ho : o.op = .call { callee := .builtin .append, args := #[x, y], argTypes := #[t, t] })
    (hx : ev E x = some (.slice p n c)) (hy : ev E y = some (.slice (some ⟨bo, 0, none⟩) 1 1)) (hT : lkT T t = some ⟨.slice TU8, bt, bt', z'⟩) (he : lkT T TU8 = some ⟨.int .u8, 1, 1, .int .u8 0⟩)
    (hown : OwnB D p n c vl) (hM : M = D ++ (bo, .arr [by8 v], tb) :: X) (hv : v < 256) (hbound : n + 1 ≤ 35184372088832)
    (hg : gok L E o.guard = some true) (hk : f = false) (hd : o.dst = some d) (hN : Nat.blt d N = true)
    (h : ∀ p' cc D', OwnB D' p' (n + 1) cc (vl ++ [v]) → SL P T L K N G l ((d, .slice p' (n + 1) cc) :: E) U (D' ++ (bo, .arr [by8 v], tb) :: X)) : SL P T L K N G ((f, i, o) :: l) E U M := by
  have r1 : Row TU8 D p n c (vl.map by8) ∧ ∀ k, k ∈ D → ∀ r, k.2.1 = .arr r → ∀ v ∈ r, v.cells.toList.length = 1 := by
    cases hown with
    | nil => exact ⟨Row.nil, fun k hk => (by cases hk)⟩
    | @arr b n c r t hn hc hm hb ht =>
      refine ⟨?_, fun k hk r' hr v hv => ?_⟩
      · have := Row.row (e := TU8) (b := b) (n := n) (c := c) (r := vl.map by8 ++ t) (by omega) (by rw [List.length_append, List.length_map]; omega) hm
        rwa [List.take_left' (by rw [List.length_map, hn])] at this
      · rw [List.mem_singleton.1 hk] at hr
        cases hr
        exact by_sizes ht v hv
  refine sl_append (D := D) (M0 := (bo, .arr [by8 v], tb) :: X) (news := [v].map by8) (m := 1) (vl := vl.map by8) hS ho hx hy hT he rfl rfl hM r1.1 (by_size vl) r1.2 rfl (by_size [v])
    (fun u hu => by
      unfold flat at hu
      rw [flat_by] at hu
      obtain ⟨d, _, rfl⟩ := List.mem_map.1 hu
      rfl)
    (fun _ => ⟨_, rfl, fun w hw j u hu => by
      have h1 : M[D.length]? = some (bo, .arr [by8 v], tb) := by rw [hM]; simp
      rw [add_lit, hw.cellM h1]
      simpa [Blk.cells, flat] using hu⟩) (by omega) (by omega) hg hk hd hN (fun p' cc D' hr' hs' => ?_)
  rw [← List.map_append] at hr'
  refine h p' cc D' ?_
  have hb : ∀ d ∈ vl ++ [v], d < 256 := fun d hd => by
    rcases List.mem_append.1 hd with h | h
    · exact hown.lt d h
    · rw [List.mem_singleton.1 h]; exact hv
  generalize hvl : (vl ++ [v]).map by8 = vv at hr'
  cases hr' with
  | @row b n' c r hn hc hm =>
    have h := OwnB.arr (b := b) (n := n + 1) (c := cc) (r := vl ++ [v]) (t := r.drop (n + 1)) (by
      have := congrArg List.length hvl
      rw [List.length_map, List.length_take, hc] at this; omega) (by rw [List.length_drop, hc]; omega) hm hb (fun v hv => hs' _ (List.mem_singleton.2 rfl) r rfl v (List.mem_of_mem_drop hv))
    rwa [hvl, List.take_append_drop] at h

variable {P : Program} {T : TT} {K : Kont} {N : Nat} {G : World} {E : Env} {U : UH} {M : MH} {L : List Oper} {l : List Ent} {f : Bool} {i : Nat} {o : Oper}

/-- A byte of a row of the call's own is read. -/
theorem yl_loadMB {t b j tb off d : Nat} {x : Operand} {r : List Nat} {tl : List Value} {ti : TI} (m : Nat) (hS : Sym P T) (ho : o.op = .load t x) (hx : ev E x = some (.pointer (some ⟨b, off, none⟩)))
    (hM : nth M m = some (b, .arr (r.map by8 ++ tl), tb)) (hT : lkT T t = some ti) (hk : one ti.k = true) (hoff : off = j) (hd : r[j]? = some d) : Yl P N G o E U M (.int .u8 (d : Int)) := by
  subst hoff
  rw [nth_eq] at hM
  refine yl_load_of ho hx fun w hw => run_loadVar_one (hS.at hT) hk ?_
  rw [hw.cellM hM]
  exact cell_rowB hd

/-- A byte of a row of the call's own is written. -/
theorem sl_storeB {t b j tb off : Nat} {x y : Operand} {v : Nat} {r : List Nat} {tl : List Value} {ti : TI} (m : Nat) (hS : Sym P T) (ho : o.op = .store t x y) (hx : ev E x = some (.pointer (some ⟨b, off, none⟩))) {iv : Int} (hy : ev E y = some (.int .u8 iv)) (hiv : iv = (v : Int))
    (hM : nth M m = some (b, .arr (r.map by8 ++ tl), tb)) (ht : ∀ v ∈ tl, v.cells.toList.length = 1) (hT : lkT T t = some ti) (hs : ti.size = 1) (hoff : off = j) (hj : j < r.length)
    (hg : gok L E o.guard = some true) (hk : xB f T o = true) (hd : o.dst = none) (h : SL P T L K N G l E U (M.set m (b, .arr ((r.set j v).map by8 ++ tl), tb))) : SL P T L K N G ((f, i, o) :: l) E U M := by
  subst hiv
  refine sl_storeE m hS ho hx (v := by8 v) hy hM hT hs (j := j) (by omega) (by_sizes ht) rfl (by simp; omega) rfl hg hk hd ?_
  rw [List.set_append_left _ _ (by simpa using hj), ← List.map_set]; exact h

def bstr (r : List Nat) : ByteArray := ⟨(r.map UInt8.ofNat).toArray⟩

/-- string(b) -/
theorem yl_strB {s d b n c tb bt bt' : Nat} {x : Operand} {r : List Nat} {tl : List Value} {z' : Value} {ti : TI} (m : Nat) (hS : Sym P T) (ho : o.op = .convert s d x) (hx : ev E x = some (.slice (some ⟨b, 0, none⟩) n c))
    (hM : nth M m = some (b, .arr (r.map by8 ++ tl), tb)) (hs : lkT T s = some ⟨.slice TU8, bt, bt', z'⟩) (he : lkT T TU8 = some ⟨.int .u8, 1, 1, .int .u8 0⟩) (hd : lkT T d = some ti) (hk : ti.k = .str) (hn : r.length = n) (hb : ∀ d ∈ r, d < 256) :
    Yl P N G o E U M (.string (bstr r)) := by
  refine ⟨fun a w ha hw => ?_⟩
  rw [nth_eq] at hM
  obtain ⟨dd, hdd, hkk⟩ := (hS.at hs).und
  have := kindOf_slice hkk
  subst this
  obtain ⟨de, hde, hke⟩ := (hS.at he).und
  obtain ⟨d2, hd2, hk2⟩ := (hS.at hd).und
  have e1 : de = .int .u8 := by cases de <;> simp [kindOf] at hke; simp [hke]
  have e2 : d2 = .string := by rw [hk] at hk2; cases d2 <;> simp [kindOf] at hk2; rfl
  subst e1 e2
  have hrun := run_convert_bytes_back (P := P) w s d TU8 ⟨b, 0, none⟩ c (r.map UInt8.ofNat) hdd hde hd2 (fun j hj => by
    rw [add_lit, hw.cellM hM]
    have hj' : j < r.length := by simpa using hj
    have h2 := List.getElem?_eq_getElem hj'
    have h3 := hb _ (List.mem_of_getElem? h2)
    rw [Nat.zero_add, cell_rowB h2]
    simp [Nat.mod_eq_of_lt h3])
  simp only [List.length_map, hn] at hrun
  simp only [execOp, ho, ha.eval hx, Sem.run_bind, hrun, Result.andThen_ok, Sem.run_pure, bstr]

/-! ### strings -/
theorem yl_str {op : BinOp} {ty yt : Nat} {x y : Operand} {a b : ByteArray} {v : Value} (ho : o.op = .binOp op ty x y yt) (hx : ev E x = some (.string a)) (hy : ev E y = some (.string b))
    (h : ∀ w, (Op.stringOp op a b).run P w = .ok v w) : Yl P N G o E U M v := by
  refine ⟨fun ac w ha hw => ?_⟩
  have hg : (eqGuard op ty x y (.string a) (.string b)).run P w = .ok () w := by cases op <;> simp [eqGuard]
  have hb : binOp op ty (.string a) (.string b) = Op.stringOp op a b := by cases op <;> rfl
  simp only [execOp, ho]
  refine run_value ?_
  simp only [ha.eval hx, ha.eval hy, Sem.run_bind, hg, Result.andThen_ok, hb, h]

/-- Two strings that are the same. -/
theorem yl_streq {ty yt : Nat} {x y : Operand} {a b : ByteArray} (ho : o.op = .binOp .eql ty x y yt) (hx : ev E x = some (.string a)) (hy : ev E y = some (.string b)) (h : a = b) : Yl P N G o E U M (.bool true) :=
  yl_str ho hx hy fun w => by subst h; simp [Op.stringOp]
theorem yl_strne {ty yt : Nat} {x y : Operand} {a b : ByteArray} (ho : o.op = .binOp .neq ty x y yt) (hx : ev E x = some (.string a)) (hy : ev E y = some (.string b)) (h : a = b) : Yl P N G o E U M (.bool false) :=
  yl_str ho hx hy fun w => by subst h; simp [Op.stringOp]
theorem str_ne {a b : ByteArray} (h : a ≠ b) : (a.toList == b.toList) = false := by
  rw [beq_eq_false_iff_ne]
  intro e
  rw [ByteArray.toList_eq, ByteArray.toList_eq] at e
  exact h (Go.WideShapes.bytes_inj e)
theorem yl_streq' {ty yt : Nat} {x y : Operand} {a b : ByteArray} (ho : o.op = .binOp .eql ty x y yt) (hx : ev E x = some (.string a)) (hy : ev E y = some (.string b)) (h : a ≠ b) : Yl P N G o E U M (.bool false) :=
  yl_str ho hx hy fun w => by simp only [Op.stringOp, str_ne h, Sem.run_pure]
theorem yl_strne' {ty yt : Nat} {x y : Operand} {a b : ByteArray} (ho : o.op = .binOp .neq ty x y yt) (hx : ev E x = some (.string a)) (hy : ev E y = some (.string b)) (h : a ≠ b) : Yl P N G o E U M (.bool true) :=
  yl_str ho hx hy fun w => by simp only [Op.stringOp, str_ne h, Sem.run_pure]; rfl
theorem yl_stradd {ty yt : Nat} {x y : Operand} {a b : ByteArray} (ho : o.op = .binOp .add ty x y yt) (hx : ev E x = some (.string a)) (hy : ev E y = some (.string b)) (h : a.size + b.size ≤ 9223372036854775807) : Yl P N G o E U M (.string (a ++ b)) :=
  yl_str ho hx hy fun w => by
    have : ¬ (((a.size + b.size : Nat) : Int) > IntKind.i64.max) := by simp [IntKind.max, IntKind.signed, IntKind.bits]; omega
    simp only [Op.stringOp, if_neg this, Sem.run_pure]

/-- Whatever stands in one cell. -/
theorem yl_loadH {t : Nat} {x : Operand} {a : Addr} {v : Value} {i : TI} (hS : Sym P T) (ho : o.op = .load t x) (hx : ev E x = some (.pointer (some a))) (hT : lkT T t = some i) (hk : one i.k = true)
    (hv : ∀ (G : World) (w : World), Mem G U M w → w.cell? a = some v) : Yl P N G o E U M v :=
  yl_load_of ho hx fun w hw => run_loadVar_one (hS.at hT) hk (hv G w hw)

end Go.Proofs.Ytcakainebimmdaa
