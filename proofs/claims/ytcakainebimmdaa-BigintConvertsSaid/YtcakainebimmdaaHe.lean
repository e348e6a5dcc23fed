/- The rules with which the functions are walked, fourth part: what makes and writes memory; calls; returns. Program in general; no condition. -/
import Derived.Test.YtcakainebimmdaaHo
namespace Go.Hp
variable {P : Program} {T : TT} {K : Kont} {N : Nat} {G : World} {E : Env} {U : UH} {M : MH} {L : List Oper} {l : List Ent} {f : Bool} {i : Nat} {o : Oper}

def xB (f : Bool) (T : TT) (o : Oper) : Bool := !f || isX (kd T o.op)
theorem xB_spec {f : Bool} {T : TT} {o : Oper} (h : xB f T o = true) : f = false ∨ isX (kd T o.op) = true := by
  cases f
  · exact .inl rfl
  · exact .inr (by simpa [xB] using h)
def cB (f : Bool) (T : TT) (o : Oper) : Bool := !f || isC (kd T o.op)
theorem cB_spec {f : Bool} {T : TT} {o : Oper} (h : cB f T o = true) : f = false ∨ isC (kd T o.op) = true := by
  cases f
  · exact .inl rfl
  · exact .inr (by simpa [cB] using h)

/-- The operation may write owned memory: behind it the owned memory is M'. -/
theorem sl_eff {d : Nat} {R : Value → UH → MH → Prop} (hg : gok L E o.guard = some true) (hk : xB f T o = true) (hd : o.dst = some d) (hN : Nat.blt d N = true)
    (hy : ∀ a w, Has a N E → Mem G U M w → ∃ v w' U' M', (execOp a.eval o).run P w = .ok (.value v) w' ∧ Mem G U' M' w' ∧ R v U' M')
    (h : ∀ v U' M', R v U' M' → SL P T L K N G l ((d, v) :: E) U' M') : SL P T L K N G ((f, i, o) :: l) E U M := by
  refine .x (R := R) (xB_spec hk) (fun e he => by rw [hd] at he; cases he; exact hN) (fun a w ha hm => ?_) (fun v U' M' hR => ?_)
  · obtain ⟨v, w', U', M', hr, hm', hR⟩ := hy a w ha hm
    unfold wpV
    rw [gok_wanted hg ha, if_pos rfl, hr]
    exact ⟨U', M', hm', hR⟩
  · rw [hd]; exact h v U' M' hR

theorem sl_skip {U' : UH} {M' : MH} (hg : gok L E o.guard = some true) (hk : xB f T o = true) (hd : o.dst = none)
    (hy : ∀ a w, Has a N E → Mem G U M w → ∃ w', (execOp a.eval o).run P w = .ok .skip w' ∧ Mem G U' M' w')
    (h : SL P T L K N G l E U' M') : SL P T L K N G ((f, i, o) :: l) E U M := by
  refine .x (R := fun _ U1 M1 => U1 = U' ∧ M1 = M') (xB_spec hk) (fun e he => by rw [hd] at he; cases he) (fun a w ha hm => ?_) (fun v U1 M1 hR => ?_)
  · obtain ⟨w', hr, hm'⟩ := hy a w ha hm
    unfold wpV
    rw [gok_wanted hg ha, if_pos rfl, hr]
    exact ⟨U', M', hm', rfl, rfl⟩
  · rw [hd]; obtain ⟨rfl, rfl⟩ := hR; exact h

/-- The operation makes memory and leaves what there is as it is. -/
theorem sl_mk {d : Nat} {R : Value → UH → MH → Prop} (hg : gok L E o.guard = some true) (hk : cB f T o = true) (hd : o.dst = some d) (hN : Nat.blt d N = true)
    (hy : ∀ M a w, Has a N E → Mem G U M w → ∃ v w' U' D, (execOp a.eval o).run P w = .ok (.value v) w' ∧ ULe U U' ∧ Mem G U' (D ++ M) w' ∧ R v U' D)
    (h : ∀ v U' D, ULe U U' → R v U' D → SL P T L K N G l ((d, v) :: E) U' (D ++ M)) : SL P T L K N G ((f, i, o) :: l) E U M := by
  refine .gr (R := R) (cB_spec hk) hd hN (fun M2 a w ha hm => ?_) h
  obtain ⟨v, w', U', D, hr, h1, hm', hR⟩ := hy _ a w ha hm
  unfold wpV
  rw [gok_wanted hg ha, if_pos rfl, hr]
  exact ⟨U', D, h1, hm', hR⟩

/-! ### new variables -/
theorem sl_box {d t : Nat} {x : Operand} {v : Value} (ho : o.op = .box t x) (hx : ev E x = some v) (hg : gok L E o.guard = some true) (hk : cB f T o = true) (hd : o.dst = some d) (hN : Nat.blt d N = true)
    (h : ∀ b, SL P T L K N G l ((d, .pointer (some ⟨b, 0, none⟩)) :: E) U ((b, .var v, t) :: M)) : SL P T L K N G ((f, i, o) :: l) E U M :=
  sl_mk (R := fun r U' D => ∃ b, r = .pointer (some ⟨b, 0, none⟩) ∧ U' = U ∧ D = [(b, .var v, t)]) hg hk hd hN
    (fun M a w ha hw => ⟨_, _, _, _, by simp [execOp, ho, ha.eval hx, Instr.box, newVar, newRow]; rfl, ULe.refl _, hw.alloc (.var v) t, _, rfl, rfl, rfl⟩)
    (fun _ _ _ _ ⟨b, h1, h2, h3⟩ => by subst h1 h2 h3; exact h b)

theorem sl_alloc {d t : Nat} {k : TK} {sz by' : Nat} {z : Value} (hS : Sym P T) (ho : o.op = .alloc t) (hT : lkT T t = some ⟨k, sz, by', z⟩) (hg : gok L E o.guard = some true) (hd : o.dst = some d) (hN : Nat.blt d N = true)
    (h : ∀ b, SL P T L K N G l ((d, .pointer (some ⟨b, 0, none⟩)) :: E) U ((b, .var z, t) :: M)) : SL P T L K N G ((f, i, o) :: l) E U M :=
  .al ho hg (fun w => (hS.at hT).run_zero w) hd hN h

/-! ### new rows -/
theorem run_newRow (e : TypeId) (cs : Array Value) (w : World) : (newRow e cs).run P w = .ok ⟨w.heap.size, 0, none⟩ (w.alloc (.cells cs e)) := by
  simp [newRow]

theorem made_flat {z : Value} {s : Nat} (hs : z.cells.toList.length = s) (h0 : 0 < s) : ∀ n, madeCells z.cells (n * s) = (Blk.arr (List.replicate n z)).cells
  | 0 => by simp [madeCells, Blk.cells]
  | n + 1 => by
    have ih := made_flat hs h0 n
    have e : (n + 1) * s = s + n * s := by rw [Nat.add_mul]; omega
    simp only [Blk.cells] at ih ⊢
    have hz : z.cells.size = s := by simpa using hs
    apply Array.ext'
    have ih' := congrArg Array.toList ih
    rw [List.replicate_succ, List.flatMap_cons]
    simp only [madeCells, Array.toList_map, Array.toList_range] at ih' ⊢
    rw [e, List.range_add, List.map_append]
    congr 1
    · apply List.ext_getElem
      · simp [hz]
      · intro i h1 h2
        simp only [List.length_map, List.length_range] at h1
        have h3 : i < z.cells.size := by omega
        simp [hz, Nat.mod_eq_of_lt h1, getElem!_pos z.cells i h3]
    · rw [← ih', List.map_map]
      apply List.map_congr_left
      intro i _
      simp [hz]

/-- 'make': a row of n zeros, of which the first m are in the slice. -/
theorem sl_make {d t e : Nat} {x y : Operand} {kx ky : IntKind} {m n s bt bt' bs : Nat} {im jn : Int} {z z' : Value} {ek : TK} (hS : Sym P T) (ho : o.op = .makeSlice t x y) (hx : ev E x = some (.int kx im)) (hy : ev E y = some (.int ky jn)) (hT : lkT T t = some ⟨.slice e, bt, bt', z'⟩) (he : lkT T e = some ⟨ek, s, bs, z⟩)
    (hm : im = (m : Int)) (hn : jn = (n : Int)) (hs : z.cells.toList.length = s) (h0 : Nat.blt 0 s = true) (hmn : m ≤ n) (hb : bs * n ≤ 281474976710656) (hl : n ≤ 9223372036854775807)
    (hg : gok L E o.guard = some true) (hk : cB f T o = true) (hd : o.dst = some d) (hN : Nat.blt d N = true)
    (h : ∀ b, SL P T L K N G l ((d, .slice (some ⟨b, 0, none⟩) m n) :: E) U ((b, .arr (List.replicate n z), e) :: M)) : SL P T L K N G ((f, i, o) :: l) E U M := by
  refine sl_mk (R := fun r U' D => ∃ b, r = .slice (some ⟨b, 0, none⟩) m n ∧ U' = U ∧ D = [(b, .arr (List.replicate n z), e)]) hg hk hd hN
    (fun M a w ha hw => ?_) (fun _ _ _ _ ⟨b, h1, h2, h3⟩ => by subst h1 h2 h3; exact h b)
  obtain ⟨dd, hdd, hkk⟩ := (hS.at hT).und
  have := kindOf_slice hkk
  subst this
  obtain ⟨inf, _, hi, hz, hsz, hby⟩ := (hS.at he).run_info w
  subst hm hn
  have hby' : inf.bytes = bs := hby
  have hb' : (inf.bytes : Int) * (n : Int) ≤ 281474976710656 := by
    have h : ((inf.bytes * n : Nat) : Int) ≤ 281474976710656 := by rw [hby']; omega
    rwa [Int.natCast_mul] at h
  have hr := run_make (P := P) w t e inf z hdd hi hz kx ky (m : Int) (n : Int) (by omega) (by omega) hb' (by omega)
  simp only [Int.toNat_natCast, hsz] at hr
  rw [made_flat hs (Nat.le_of_ble_eq_true h0)] at hr
  refine ⟨_, _, _, _, ?_, ULe.refl _, hw.alloc (.arr (List.replicate n z)) e, _, rfl, rfl, rfl⟩
  simp only [execOp, ho, ha.eval hx, ha.eval hy, Sem.run_bind, hr, Result.andThen_ok, Sem.run_pure]

/-! ### stores -/
theorem setRow_os (w : World) (g : Nat) (cs : Array Value) : (w.setRow g cs).os = w.os ∧ (w.setRow g cs).tape = w.tape ∧ (w.setRow g cs).output = w.output := ⟨rfl, rfl, rfl⟩

theorem Mem.setRow {w : World} (h : Mem G U M w) {i b t : Nat} {k k' : Blk} (hi : M[i]? = some (b, k, t)) {cs : Array Value} (hcs : cs = k'.cells) : Mem G U (M.set i (b, k', t)) (w.setRow b cs) := by
  subst hcs
  refine h.setBlk hi k' rfl rfl rfl (setRow_heap w b _ _ _ _ (h.own_at hi)) (fun j hj => ?_)
  exact setRow_other w b j _ hj

theorem run_storeVar_at {w : World} {t b off tb : Nat} {ti : TI} {cur : Array Value} {v : Value} (hT : TI.ok P t ti) (hb : w.heap[b]? = some (.cells cur tb (0, 0))) (hv : v.cells.toList.length = ti.size)
    (h1 : v.cells.toList.all Value.oneCell' = true) (hfit : off + ti.size ≤ cur.size) :
    (storeVar t ⟨b, off, none⟩ v).run P w = .ok () (w.setRow b (cur.toList.take off ++ v.cells.toList ++ cur.toList.drop (off + ti.size)).toArray) := by
  have hsz := hT.run_size w
  have hst := run_storeCells_at P b off tb v.cells.toList 0 cur w hb (by rw [hv]; omega) (fun u hu => (List.all_eq_true.1 h1) u hu)
  simp only [Nat.add_zero, hv] at hst
  have hv' : v.cells.size = ti.size := by simpa using hv
  simp only [storeVar, Sem.run_bind, hsz, Result.andThen_ok, hv', ne_eq, not_true_eq_false, if_false]
  exact hst

/-- A whole variable is written. -/
theorem sl_store {t b tb : Nat} {x y : Operand} {v old : Value} {ti : TI} (m : Nat) (hS : Sym P T) (ho : o.op = .store t x y) (hx : ev E x = some (.pointer (some ⟨b, 0, none⟩))) (hy : ev E y = some v)
    (hM : nth M m = some (b, .var old, tb)) (hT : lkT T t = some ti) (hv : v.cells.toList.length = ti.size) (hold : old.cells.toList.length = ti.size) (h1 : v.cells.toList.all Value.oneCell' = true)
    (hg : gok L E o.guard = some true) (hk : xB f T o = true) (hd : o.dst = none) (h : SL P T L K N G l E U (M.set m (b, .var v, tb))) : SL P T L K N G ((f, i, o) :: l) E U M := by
  rw [nth_eq] at hM
  refine sl_skip hg hk hd (fun a w ha hw => ?_) h
  have hb := hw.own_at hM
  have hrun := run_storeVar_at (off := 0) (hS.at hT) hb hv h1 (by simp only [Blk.cells]; simp at hold; omega)
  refine ⟨_, ?_, hw.setRow hM (k' := .var v) (cs := ((Blk.var old).cells.toList.take 0 ++ v.cells.toList ++ (Blk.var old).cells.toList.drop (0 + ti.size)).toArray) ?_⟩
  · simp only [execOp, ho, ha.eval hx, ha.eval hy, Instr.storeAt, Instr.sureAddr, pure_bind, Sem.run_bind, hrun, Result.andThen_ok, Sem.run_pure]
  · have : (Blk.var old).cells.toList.drop (0 + ti.size) = [] := by
      apply List.drop_eq_nil_of_le; simp only [Blk.cells]; omega
    rw [this]; simp [Blk.cells]

/-- A field of a variable is written. -/
theorem sl_storeF {t b off tb : Nat} {x y : Operand} {v : Value} {c : Array Value} {ti : TI} (m : Nat) (hS : Sym P T) (ho : o.op = .store t x y) (hx : ev E x = some (.pointer (some ⟨b, off, none⟩))) (hy : ev E y = some v)
    (hM : nth M m = some (b, .var (.agg c), tb)) (hT : lkT T t = some ti) (hv : v.cells.toList.length = ti.size) (hold : Nat.ble (off + ti.size) c.toList.length = true) (h1 : v.cells.toList.all Value.oneCell' = true)
    (hg : gok L E o.guard = some true) (hk : xB f T o = true) (hd : o.dst = none) (h : SL P T L K N G l E U (M.set m (b, .var (.agg (setSeg c.toList off v.cells.toList).toArray), tb))) : SL P T L K N G ((f, i, o) :: l) E U M := by
  rw [nth_eq] at hM
  refine sl_skip hg hk hd (fun a w ha hw => ?_) h
  have hb := hw.own_at hM
  have hold' := Nat.le_of_ble_eq_true hold
  have hrun := run_storeVar_at (off := off) (hS.at hT) hb hv h1 (by simp only [Blk.cells, Value.cells]; simpa using hold')
  refine ⟨_, ?_, hw.setRow hM (k' := .var (.agg (setSeg c.toList off v.cells.toList).toArray)) (cs := ((Blk.var (.agg c)).cells.toList.take off ++ v.cells.toList ++ (Blk.var (.agg c)).cells.toList.drop (off + ti.size)).toArray) ?_⟩
  · simp only [execOp, ho, ha.eval hx, ha.eval hy, Instr.storeAt, Instr.sureAddr, pure_bind, Sem.run_bind, hrun, Result.andThen_ok, Sem.run_pure]
  · have e1 : (Blk.var (.agg c)).cells = c := rfl
    have e2 : ∀ x, (Blk.var (.agg x)).cells = x := fun _ => rfl
    rw [e1, e2, setSeg, hv]

/-- Rows of elements of one size. -/
theorem flat_length {s : Nat} : ∀ {l : List Value}, (∀ v ∈ l, v.cells.toList.length = s) → (l.flatMap fun v => v.cells.toList).length = l.length * s
  | [], _ => by simp
  | v :: l, h => by
    rw [List.flatMap_cons, List.length_append, flat_length (fun u hu => h u (List.mem_cons_of_mem _ hu)), h v (List.mem_cons_self ..), List.length_cons, Nat.add_mul]
    omega
theorem flat_take {s : Nat} : ∀ {l : List Value} (j : Nat), (∀ v ∈ l, v.cells.toList.length = s) → (l.flatMap fun v => v.cells.toList).take (j * s) = (l.take j).flatMap fun v => v.cells.toList
  | [], j, _ => by simp
  | v :: l, 0, _ => by simp
  | v :: l, j + 1, h => by
    have h0 := h v (List.mem_cons_self ..)
    rw [List.flatMap_cons, List.take_succ_cons, List.flatMap_cons, List.take_append, h0, List.take_of_length_le (by rw [h0, Nat.add_mul]; omega)]
    have : (j + 1) * s - s = j * s := by rw [Nat.add_mul]; omega
    rw [this, flat_take j (fun u hu => h u (List.mem_cons_of_mem _ hu))]
theorem flat_drop {s : Nat} : ∀ {l : List Value} (j : Nat), (∀ v ∈ l, v.cells.toList.length = s) → (l.flatMap fun v => v.cells.toList).drop (j * s) = (l.drop j).flatMap fun v => v.cells.toList
  | [], j, _ => by simp
  | v :: l, 0, _ => by simp
  | v :: l, j + 1, h => by
    have h0 := h v (List.mem_cons_self ..)
    rw [List.flatMap_cons, List.drop_succ_cons, List.drop_append, h0, List.drop_eq_nil_of_le (by rw [h0, Nat.add_mul]; omega)]
    have : (j + 1) * s - s = j * s := by rw [Nat.add_mul]; omega
    rw [this, flat_drop j (fun u hu => h u (List.mem_cons_of_mem _ hu))]; simp
theorem flat_set {s : Nat} {l : List Value} {j : Nat} {v : Value} (h : ∀ u ∈ l, u.cells.toList.length = s) (_hv : v.cells.toList.length = s) (hj : j < l.length) :
    (l.flatMap fun u => u.cells.toList).take (j * s) ++ v.cells.toList ++ (l.flatMap fun u => u.cells.toList).drop (j * s + s) = (l.set j v).flatMap fun u => u.cells.toList := by
  have e : j * s + s = (j + 1) * s := by rw [Nat.add_mul]; omega
  rw [e, flat_take j h, flat_drop (j + 1) h, List.set_eq_take_append_cons_drop, if_pos hj, List.flatMap_append, List.flatMap_cons, List.append_assoc]

/-- An element of a row of the call's own is written. -/
theorem sl_storeE {t b j s tb off : Nat} {x y : Operand} {v : Value} {r : List Value} {ti : TI} (m : Nat) (hS : Sym P T) (ho : o.op = .store t x y) (hx : ev E x = some (.pointer (some ⟨b, off, none⟩))) (hy : ev E y = some v)
    (hM : nth M m = some (b, .arr r, tb)) (hT : lkT T t = some ti) (hs : ti.size = s) (hoff : off = j * s) (hr : ∀ u ∈ r, u.cells.toList.length = s) (hv : v.cells.toList.length = s) (hj : j < r.length) (h1 : v.cells.toList.all Value.oneCell' = true)
    (hg : gok L E o.guard = some true) (hk : xB f T o = true) (hd : o.dst = none) (h : SL P T L K N G l E U (M.set m (b, .arr (r.set j v), tb))) : SL P T L K N G ((f, i, o) :: l) E U M := by
  rw [nth_eq] at hM
  refine sl_skip hg hk hd (fun a w ha hw => ?_) h
  have hb := hw.own_at hM
  have hlen := flat_length hr
  have hfit : j * s + s ≤ r.length * s := by
    have : (j + 1) * s ≤ r.length * s := Nat.mul_le_mul_right _ hj
    rw [Nat.add_mul] at this; omega
  subst hoff
  have hrun := run_storeVar_at (off := j * s) (hS.at hT) hb (by rw [hv, hs]) h1 (by simp only [Blk.cells, List.size_toArray]; rw [hlen, hs]; exact hfit)
  refine ⟨_, ?_, hw.setRow hM (k' := .arr (r.set j v)) (cs := ((Blk.arr r).cells.toList.take (j * s) ++ v.cells.toList ++ (Blk.arr r).cells.toList.drop (j * s + ti.size)).toArray) ?_⟩
  · simp only [execOp, ho, ha.eval hx, ha.eval hy, Instr.storeAt, Instr.sureAddr, pure_bind, Sem.run_bind, hrun, Result.andThen_ok, Sem.run_pure]
  · simp only [Blk.cells, hs]
    exact congrArg List.toArray (flat_set hr hv hj)

/-- An element of a row of the call's own is read. -/
theorem flat_get {s : Nat} {l : List Value} {j k : Nat} {v : Value} (h : ∀ u ∈ l, u.cells.toList.length = s) (hj : l[j]? = some v) (hk : k < s) :
    (l.flatMap fun u => u.cells.toList)[j * s + k]? = v.cells.toList[k]? := by
  have h1 := flat_drop j h
  have h2 : (l.flatMap fun u => u.cells.toList)[j * s + k]? = ((l.flatMap fun u => u.cells.toList).drop (j * s))[k]? := by rw [List.getElem?_drop]
  rw [h2, h1]
  obtain ⟨hl, he⟩ := List.getElem?_eq_some_iff.1 hj
  rw [List.drop_eq_getElem_cons hl, he, List.flatMap_cons, List.getElem?_append_left (by rw [h v (List.mem_of_getElem? hj)]; exact hk)]

theorem yl_loadE1 {t b j tb : Nat} {x : Operand} {v : Value} {r : List Value} {ti : TI} (i : Nat) (hS : Sym P T) (ho : o.op = .load t x) (hx : ev E x = some (.pointer (some ⟨b, 0 + j * 1, none⟩)))
    (hM : nth M i = some (b, .arr r, tb)) (hT : lkT T t = some ti) (hk : one ti.k = true) (hr : ∀ u ∈ r, u.cells.toList.length = 1) (hv : r[j]? = some v) (hvc : v.cells = #[v]) : Yl P N G o E U M v := by
  rw [nth_eq] at hM
  refine yl_load_of ho hx fun w hw => run_loadVar_one (hS.at hT) hk ?_
  rw [hw.cellM hM]
  have := flat_get (k := 0) hr hv (by omega)
  simp only [Blk.cells, List.getElem?_toArray]
  simpa [hvc] using this

theorem yl_loadEs {t b j s tb : Nat} {x : Operand} {c : Array Value} {r : List Value} {ti : TI} {fs : List (Nat × Nat)} (i : Nat) (hS : Sym P T) (ho : o.op = .load t x) (hx : ev E x = some (.pointer (some ⟨b, 0 + j * s, none⟩)))
    (hM : nth M i = some (b, .arr r, tb)) (hT : lkT T t = some ti) (hk : ti.k = .struct fs) (hs : ti.size = s) (hr : ∀ u ∈ r, u.cells.toList.length = s) (hv : r[j]? = some (.agg c)) : Yl P N G o E U M (.agg c) := by
  rw [nth_eq] at hM
  refine yl_load_of ho hx fun w hw => ?_
  have hn : c.toList.length = s := by simpa [Value.cells] using hr _ (List.mem_of_getElem? hv)
  have := run_loadVar_struct (P := P) (hS.at hT) hk (w := w) (a := ⟨b, 0 + j * s, none⟩) (cs := c.toList) (by rw [hn, hs]) (fun m u hu => by
    rw [add_lit, hw.cellM hM]
    have hm : m < s := by rw [← hn]; exact (List.getElem?_eq_some_iff.1 hu).1
    have := flat_get (k := m) hr hv hm
    simp only [Blk.cells, List.getElem?_toArray, Nat.zero_add]
    rw [this]; simpa [Value.cells] using hu)
  simpa using this

/-! ### calls -/
def callable (P : Program) (f : Nat) : Bool :=
  match P.funcs[f]? with
  | some fn => !(fn.name == "runtime.NumGoroutine") && fn.body.isSome
  | none => false

/-- A contract: from every world that fits, the call returns; what is settled and owned then is told: D is what it hands over besides. -/
structure Ct (P : Program) (f : Nat) (args : List Value) (G : World) (U : UH) (M : MH) (R : Value → UH → MH → Prop) : Prop where
  callable : callable P f = true
  calls : ∀ w, Mem G U M w → Calls P f args.toArray w fun e w' => ∃ v U' D, e = .returned v ∧ ULe U U' ∧ Mem G U' (D ++ M) w' ∧ R v U' D

theorem Ct.mono {f : Nat} {args : List Value} {R R' : Value → UH → MH → Prop} (h : Ct P f args G U M R) (hr : ∀ v U' D, ULe U U' → R v U' D → R' v U' D) : Ct P f args G U M R' :=
  ⟨h.callable, fun w hw => (h.calls w hw).mono fun _ _ ⟨v, U', D, h1, h2, h3, h4⟩ => ⟨v, U', D, h1, h2, h3, hr _ _ _ h2 h4⟩⟩

theorem run_callFunc {f : Nat} (h : callable P f = true) (args : Array Value) (w : World) : (callFunc f args).run P w = .ok (.enter f args) w := by
  unfold Hp.callable at h
  split at h
  · rename_i fn hf
    simp only [Bool.and_eq_true, Bool.not_eq_true', beq_eq_false_iff_ne, ne_eq] at h
    have h2 : fn.body.isNone = false := by
      have := h.2
      cases hb : fn.body <;> simp [hb] at this ⊢
    have h3 : (fn.name == "runtime.NumGoroutine") = false := by simpa using h.1
    simp only [callFunc, Sem.run_bind, run_program, Result.andThen_ok, hf, h3, h2, Bool.false_eq_true, if_false, Sem.run_pure]
  · cases h

theorem run_call {c : Nat} {args : List Operand} {tys : Array TypeId} {vs : List Value} (ho : o.op = .call { callee := .value (.func c), args := args.toArray, argTypes := tys })
    (hv : evs E args = some vs) (hc : callable P c = true) {a : Act} (ha : Has a N E) (w : World) : (execOp a.eval o).run P w = .ok (.enter c vs.toArray) w := by
  have := run_callFunc hc vs.toArray w
  simp only [execOp, ho, resolve, List.map_toArray, ha.evals hv, Act.eval, Deferred.ofValue, Sem.run_bind, Sem.run_pure, Result.andThen_ok, invoke]
  simpa using this

theorem sl_call {d c : Nat} {args : List Operand} {tys : Array TypeId} {vs : List Value} {R : Value → UH → MH → Prop} (ho : o.op = .call { callee := .value (.func c), args := args.toArray, argTypes := tys })
    (hv : evs E args = some vs) (hk : cB f T o = true) (hd : o.dst = some d) (hN : Nat.blt d N = true) (hg : gok L E o.guard = some true) (hc : ∀ M2, Ct P c vs G U (M2 ++ M) R)
    (h : ∀ v U' D, ULe U U' → R v U' D → SL P T L K N G l ((d, v) :: E) U' (D ++ M)) : SL P T L K N G ((f, i, o) :: l) E U M := by
  refine .gr (R := R) (cB_spec hk) hd hN (fun M2 a w ha hm => ?_) h
  unfold wpV
  rw [gok_wanted hg ha, if_pos rfl, run_call ho hv (hc []).callable ha w]
  refine ((hc M2).calls w hm).mono ?_
  rintro e w' ⟨v, U', D, rfl, h1, h2, h3⟩
  exact ⟨v, rfl, U', D, h1, h2, h3⟩

/-- A call that may write owned memory. -/
theorem sl_callX {d c : Nat} {args : List Operand} {tys : Array TypeId} {vs : List Value} {R : Value → UH → MH → Prop} (ho : o.op = .call { callee := .value (.func c), args := args.toArray, argTypes := tys })
    (hv : evs E args = some vs) (hk : f = false) (hd : o.dst = some d) (hN : Nat.blt d N = true) (hg : gok L E o.guard = some true) (hcb : callable P c = true)
    (hc : ∀ w, Mem G U M w → Calls P c vs.toArray w fun e w' => ∃ v U' M', e = .returned v ∧ ULe U U' ∧ Mem G U' M' w' ∧ R v U' M')
    (h : ∀ v U' M', ULe U U' → R v U' M' → SL P T L K N G l ((d, v) :: E) U' M') : SL P T L K N G ((f, i, o) :: l) E U M := by
  refine .x (R := fun v U' M' => ULe U U' ∧ R v U' M') (.inl hk) (fun e he => by rw [hd] at he; cases he; exact hN) (fun a w ha hm => ?_) (fun v U' M' hR => ?_)
  · unfold wpV
    rw [gok_wanted hg ha, if_pos rfl, run_call ho hv hcb ha w]
    refine (hc w hm).mono ?_
    rintro e w' ⟨v, U', M', rfl, h1, h2, h3⟩
    exact ⟨v, rfl, U', M', h2, h1, h3⟩
  · rw [hd]; exact h v U' M' hR.1 hR.2

/-! ### entry and return -/
def argEnv : Nat → List Value → Env
  | _, [] => []
  | k, v :: r => (k, v) :: argEnv (k + 1) r

theorem lk_argEnv : ∀ (l : List Value) (k t : Nat) (v : Value), lk (argEnv k l) t = some v → k ≤ t ∧ l[t - k]? = some v
  | [], k, t, v, h => by simp [argEnv, lk] at h
  | u :: r, k, t, v, h => by
    by_cases e : k = t
    · subst e
      simp only [argEnv] at h
      rw [lk_cons_eq] at h
      exact ⟨Nat.le_refl _, by simpa using h⟩
    · simp only [argEnv] at h
      rw [lk_cons_ne e] at h
      obtain ⟨h1, h2⟩ := lk_argEnv r (k + 1) t v h
      refine ⟨by omega, ?_⟩
      have : t - k = (t - (k + 1)) + 1 := by omega
      rw [this, List.getElem?_cons_succ]; exact h2

theorem ct_of_st {f : Nat} {fn : Func} {c : Code} {args : List Value} {R : Value → UH → MH → Prop} (hf : P.funcs[f]? = some fn) (hb : fn.body = some c) (hN : fn.ntmps = N) (hname : (fn.name == "runtime.NumGoroutine") = false)
    (hle : Nat.ble args.length N = true)
    (h : St P (bodyPost P fn fun e w' => ∃ v U' D, e = .returned v ∧ ULe U U' ∧ Mem G U' (D ++ M) w' ∧ R v U' D) N G c (argEnv 0 args) U M) : Ct P f args G U M R := by
  refine ⟨by simp [Hp.callable, hf, hb, hname], fun w hw => calls_of_wp hf hb (h.run _ w ?_ hw)⟩
  have hle' := Nat.le_of_ble_eq_true hle
  refine ⟨rfl, by simp [hN]; omega, fun t v hv => ?_⟩
  obtain ⟨_, h2⟩ := lk_argEnv args 0 t v hv
  simp only [Nat.sub_zero] at h2
  have hlt := (List.getElem?_eq_some_iff.1 h2).1
  rw [Array.getElem?_append_left (by simpa using hlt)]
  simpa using h2

/-- One result variable, read. -/
inductive RV (T : TT) (E : Env) (M : MH) : ResultVar → Value → Prop where
  | tmp {t : Nat} {v : Value} (h : lk E t = some v) : RV T E M (.tmp t) v
  | cell {a t b tb : Nat} {old v : Value} (i : Nat) (ha : lk E a = some (.pointer (some ⟨b, 0, none⟩))) (hM : nth M i = some (b, .var old, tb)) (hl : ldv T t old 0 = some v) : RV T E M (.cell a t) v

inductive RVs (T : TT) (E : Env) (M : MH) : List ResultVar → List Value → Prop where
  | nil : RVs T E M [] []
  | cons {r : ResultVar} {v : Value} {rs : List ResultVar} {vs : List Value} (h : RV T E M r v) (hs : RVs T E M rs vs) : RVs T E M (r :: rs) (v :: vs)

def resOne (tmps : Array Value) : ResultVar → Sem Value
  | .tmp t => pure (tmps.getD t undef)
  | .cell x t => do loadVar t (← asAddr (tmps.getD x undef))

theorem RV.run {r : ResultVar} {v : Value} (hS : Sym P T) (h : RV T E M r v) {a : Act} {w : World} (ha : Has a N E) (hw : Mem G U M w) :
    (resOne a.tmps r).run P w = .ok v w := by
  cases h with
  | tmp h => simp [resOne, ha.get _ _ h]
  | cell i hp hM hl =>
    rw [nth_eq] at hM
    have := ldv_run hS hl (hw.own_at hM)
    simp [resOne, ha.get _ _ hp, asAddr, this]

theorem RVs.run {rs : List ResultVar} {vs : List Value} (hS : Sym P T) (h : RVs T E M rs vs) {a : Act} {w : World} (ha : Has a N E) (hw : Mem G U M w) :
    (rs.mapM (resOne a.tmps)).run P w = .ok vs w := by
  induction h with
  | nil => simp
  | cons h hs ih =>
    have h1 := h.run hS ha hw
    simp only [List.mapM_cons, Sem.run_bind, h1, Result.andThen_ok, ih, Sem.run_pure]

theorem results_eq (fn : Func) (tmps : Array Value) : results fn tmps = (do let vs ← fn.results.mapM (resOne tmps); pure (if h : vs.size = 1 then vs[0] else .tuple vs)) := by
  unfold results
  have : (fun r : ResultVar => (match r with | .tmp t => pure (tmps.getD t undef) | .cell a t => do loadVar t (← asAddr (tmps.getD a undef)) : Sem Value)) = resOne tmps := by
    funext r; cases r <;> rfl
  rw [← this]
  rfl

def tup : List Value → Value
  | [v] => v
  | vs => .tuple vs.toArray

theorem results_run {fn : Func} {rs : List ResultVar} {vs : List Value} (hS : Sym P T) (hrs : fn.results = rs.toArray) (h : RVs T E M rs vs) {a : Act} {w : World} (ha : Has a N E) (hw : Mem G U M w) : (results fn a.tmps).run P w = .ok (tup vs) w := by
  have h1 := h.run hS ha hw
  have h2 : (fn.results.mapM (resOne a.tmps)).run P w = .ok vs.toArray w := by
    rw [hrs, List.mapM_toArray]
    simp only [Sem.run_map, h1, Result.andThen_ok]
  rw [results_eq]
  simp only [Sem.run_bind, h2, Result.andThen_ok, Sem.run_pure]
  cases vs with
  | nil => rfl
  | cons v r => cases r with
    | nil => rfl
    | cons u r => simp [tup]

/-- The return: D of the owned memory is handed over, the rest of the call's own is dropped. -/
theorem sk_ret {fn : Func} {rs : List ResultVar} {vs : List Value} {R : Value → UH → MH → Prop} {U0 : UH} {M0 : MH} (D : MH) (hS : Sym P T) (hrs : fn.results = rs.toArray) (h : RVs T E M rs vs) (hU : ULe U0 U) (hM : (D ++ M0).Sublist M) {e : Exit} (he : e = .ret ∨ e = .normal) (hR : R (tup vs) U D) :
    SK (bodyPost P fn fun e w' => ∃ v U' D, e = .returned v ∧ ULe U0 U' ∧ Mem G U' (D ++ M0) w' ∧ R v U' D) N G e E U M := by
  refine ⟨fun a w ha hw => ?_⟩
  have hrun := results_run hS hrs h ha hw
  have hm := hw.anti (ULe.refl U) hM
  rcases he with rfl | rfl
  · exact ⟨ha.defers, _, hrun, _, U, D, rfl, hU, hm, hR⟩
  · exact ⟨ha.defers, _, hrun, _, U, D, rfl, hU, hm, hR⟩

end Go.Hp
