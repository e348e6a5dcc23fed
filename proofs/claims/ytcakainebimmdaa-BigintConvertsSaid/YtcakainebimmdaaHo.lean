/- The rules with which the functions are walked, third part: loads, stores, allocations, calls, returns. Program in general; no condition. -/
import Derived.Test.YtcakainebimmdaaHd
namespace Go.Hp
variable {P : Program} {T : TT} {K : Kont} {N : Nat} {G : World} {E : Env} {U : UH} {M : MH}

/-- The operation yields v and leaves every world that fits as it is. -/
structure Yl (P : Program) (N : Nat) (G : World) (o : Oper) (E : Env) (U : UH) (M : MH) (v : Value) : Prop where
  run : ∀ a w, Has a N E → Mem G U M w → (execOp a.eval o).run P w = .ok (.value v) w

theorem sl_nil {L : List Oper} (h : SK K N G .normal E U M) : SL P T L K N G [] E U M := .nil h

def yB (f : Bool) (T : TT) (o : Oper) : Bool := !f || isY (kd T o.op)
theorem yB_spec {f : Bool} {T : TT} {o : Oper} (h : yB f T o = true) : f = false ∨ isY (kd T o.op) = true := by
  cases f
  · exact .inl rfl
  · exact .inr (by simpa [yB] using h)

theorem sl_y {L : List Oper} {l : List Ent} {f : Bool} {i : Nat} {o : Oper} {d : Nat} {v : Value} (hy : Yl P N G o E U M v) (hk : yB f T o = true) (hd : o.dst = some d) (hN : Nat.blt d N = true) (hg : gok L E o.guard = some true)
    (h : SL P T L K N G l ((d, v) :: E) U M) : SL P T L K N G ((f, i, o) :: l) E U M :=
  .det ((yB_spec hk).imp id .inl) hd hN ⟨fun a w ha hm => .inl ⟨gok_wanted hg ha, hy.run a w ha hm⟩⟩ h

/-- Not wanted: the guard says no. -/
theorem sl_no {L : List Oper} {l : List Ent} {f : Bool} {i : Nat} {o : Oper} {d : Nat} (hg : gok L E o.guard = some false) (hd : o.dst = some d) (hN : Nat.blt d N = true)
    (h : SL P T L K N G l ((d, undef) :: E) U M) : SL P T L K N G ((f, i, o) :: l) E U M :=
  .det (.inr (.inr hg)) hd hN ⟨fun _ _ ha _ => .inr ⟨gok_wanted hg ha, rfl⟩⟩ h

/-- The slot on which the next operation's guard looks. -/
def gslot (L : List Oper) : Option (Nat × Bool) → Option Nat
  | some (j, _) => match nth L j with
    | some o => o.dst
    | none => none
  | none => none

theorem wk_same {t : Nat} {v : Value} (h : lk E t = some v) : Wk ((t, v) :: E) E := by
  intro u x hx
  by_cases e : t = u
  · subst e; rw [lk_cons_eq] at hx; cases hx; exact h
  · rw [lk_cons_ne e] at hx; exact hx

/-- A guard that is not decided: both ways. -/
theorem sl_gb {L : List Oper} {l : List Ent} {f : Bool} {i : Nat} {o : Oper} {t : Nat} {b : Bool} (_hg : gslot L o.guard = some t) (hb : lk E t = some (.bool b))
    (ht : b = true → SL P T L K N G ((f, i, o) :: l) ((t, .bool true) :: E) U M) (hf : b = false → SL P T L K N G ((f, i, o) :: l) ((t, .bool false) :: E) U M) : SL P T L K N G ((f, i, o) :: l) E U M := by
  cases hb' : b
  · subst hb'; exact (hf rfl).congr (wk_same hb) (List.Perm.refl _)
  · subst hb'; exact (ht rfl).congr (wk_same hb) (List.Perm.refl _)
theorem sl_gdec {L : List Oper} {l : List Ent} {f : Bool} {i : Nat} {o : Oper} {t : Nat} {p : Prop} {_ : Decidable p} (hg : gslot L o.guard = some t) (hb : lk E t = some (.bool (dec p)))
    (ht : p → SL P T L K N G ((f, i, o) :: l) ((t, .bool true) :: E) U M) (hf : ¬ p → SL P T L K N G ((f, i, o) :: l) ((t, .bool false) :: E) U M) : SL P T L K N G ((f, i, o) :: l) E U M :=
  sl_gb hg hb (fun h => ht (of_dec h)) (fun h => hf (of_dec_not h))

theorem yl_pure {o : Oper} {v : Value} (hS : Sym P T) (h : pureOp T E o.op = some v) : Yl P N G o E U M v :=
  ⟨fun _ w ha _ => pureOp_run hS h ha w⟩

/-! ### loads -/
/-- A variable of a type with one cell, or a struct of several. -/
def one : TK → Bool
  | .struct _ => false
  | .other => false
  | _ => true

theorem run_isAgg_one {t : Nat} {i : TI} (h : TI.ok P t i) (hk : one i.k = true) (w : World) : (isAgg t).run P w = .ok false w := by
  obtain ⟨d, hd, hk'⟩ := h.und
  simp only [isAgg, Sem.run_bind, run_underlying' hd, Result.andThen_ok]
  cases d <;> simp [kindOf] at hk' <;> simp [← hk', one] at hk <;> rfl

theorem run_isAgg_struct {t : Nat} {i : TI} {fs : List (Nat × Nat)} (h : TI.ok P t i) (hk : i.k = .struct fs) (w : World) : (isAgg t).run P w = .ok true w := by
  obtain ⟨d, hd, hk'⟩ := h.und
  rw [hk] at hk'
  obtain ⟨g, rfl, _⟩ := kindOf_struct hk'
  simp [isAgg, run_underlying' hd]

theorem run_loadVar_one {t : Nat} {i : TI} (h : TI.ok P t i) (hk : one i.k = true) {w : World} {a : Addr} {v : Value} (hv : w.cell? a = some v) : (loadVar t a).run P w = .ok v w := by
  simp [loadVar, run_isAgg_one h hk, hv]

theorem run_loadVar_struct {t : Nat} {i : TI} {fs : List (Nat × Nat)} (h : TI.ok P t i) (hk : i.k = .struct fs) {w : World} {a : Addr} {cs : List Value} (hn : cs.length = i.size) (hv : ∀ j v, cs[j]? = some v → w.cell? (a.add j) = some v) :
    (loadVar t a).run P w = .ok (.agg cs.toArray) w := by
  have := run_loadCells_list (P := P) (w := w) a cs hv
  simp only [loadVar, Sem.run_bind, run_isAgg_struct h hk, Result.andThen_ok, if_true, h.run_size, ← hn, this, Sem.run_pure]

theorem yl_load_of {o : Oper} {t : Nat} {x : Operand} {a : Addr} {v : Value} (ho : o.op = .load t x) (hx : ev E x = some (.pointer (some a)))
    (h : ∀ w, Mem G U M w → (loadVar t a).run P w = .ok v w) : Yl P N G o E U M v := by
  refine ⟨fun ac w ha hw => ?_⟩
  simp [execOp, ho, ha.eval hx, Instr.loadAt, Instr.sureAddr, h w hw]

/-- One cell of settled memory. -/
theorem yl_loadU {o : Oper} {t : Nat} {x : Operand} {a : Addr} {v : Value} {i : TI} (hS : Sym P T) (ho : o.op = .load t x) (hx : ev E x = some (.pointer (some a))) (hT : lkT T t = some i) (hk : one i.k = true)
    (hv : U.cell? a = some v) : Yl P N G o E U M v :=
  yl_load_of ho hx fun _ hw => run_loadVar_one (hS.at hT) hk (hw.cellU hv)

/-- A struct in settled memory. -/
theorem yl_loadUs {o : Oper} {t : Nat} {x : Operand} {a : Addr} {cs : List Value} {i : TI} {fs : List (Nat × Nat)} (hS : Sym P T) (ho : o.op = .load t x) (hx : ev E x = some (.pointer (some a))) (hT : lkT T t = some i) (hk : i.k = .struct fs)
    (hn : cs.length = i.size) (hv : ∀ j v, cs[j]? = some v → U.cell? (a.add j) = some v) : Yl P N G o E U M (.agg cs.toArray) :=
  yl_load_of ho hx fun _ hw => run_loadVar_struct (hS.at hT) hk hn fun j v h => hw.cellU (hv j v h)

/-- What a load of type t at cell off of a variable with the value v yields. -/
def ldv (T : TT) (t : Nat) (v : Value) (off : Nat) : Option Value :=
  match lkT T t with
  | some ⟨.struct _, n, _, _⟩ => bif Nat.beq off 0 && Nat.beq n v.cells.toList.length then (match v with | .agg c => some (.agg c) | _ => none) else
      bif Nat.ble (off + n) v.cells.toList.length then some (.agg ((v.cells.toList.drop off).take n).toArray) else none
  | some ⟨.other, _, _, _⟩ => none
  | some _ => nth v.cells.toList off
  | none => none

theorem add_lit (b o j : Nat) : (⟨b, o, none⟩ : Addr).add j = ⟨b, o + j, none⟩ := by
  unfold Addr.add; split <;> simp_all

theorem ldv_run {t : Nat} {v r : Value} {off b tb : Nat} (hS : Sym P T) (h : ldv T t v off = some r) {w : World} (hb : w.heap[b]? = some (.cells v.cells tb (0, 0))) : (loadVar t ⟨b, off, none⟩).run P w = .ok r w := by
  have hcell : ∀ j, w.cell? ⟨b, j, none⟩ = v.cells[j]? := fun j => by simp [World.cell?, hb]
  unfold ldv at h
  split at h
  · rename_i fs n _ _ hT
    by_cases h1 : (Nat.beq off 0 && Nat.beq n v.cells.toList.length) = true
    · rw [h1] at h
      simp only [cond_true] at h
      split at h
      · rename_i c
        simp only [Option.some.injEq] at h
        subst h
        simp only [Bool.and_eq_true] at h1
        have h2 := Nat.eq_of_beq_eq_true h1.1
        have h3 := Nat.eq_of_beq_eq_true h1.2
        subst h2
        have := run_loadVar_struct (P := P) (hS.at hT) rfl (w := w) (a := ⟨b, 0, none⟩) (cs := c.toList) (by simpa [Value.cells] using h3.symm) (fun j u hu => by
          rw [add_lit, hcell]; simpa [Value.cells] using hu)
        simpa using this
      · cases h
    · have h1' : (Nat.beq off 0 && Nat.beq n v.cells.toList.length) = false := Bool.eq_false_iff.2 h1
      rw [h1'] at h
      simp only [cond_false] at h
      by_cases h2 : Nat.ble (off + n) v.cells.toList.length = true
      · rw [h2] at h
        simp only [cond_true, Option.some.injEq] at h
        subst h
        have h3 := Nat.le_of_ble_eq_true h2
        refine run_loadVar_struct (hS.at hT) rfl (by rw [List.length_take, List.length_drop]; show min n _ = n; omega) (fun j u hu => ?_)
        rw [add_lit, hcell]
        rw [List.getElem?_take] at hu
        split at hu
        · rw [List.getElem?_drop] at hu
          simpa using hu
        · cases hu
      · have h2' : Nat.ble (off + n) v.cells.toList.length = false := Bool.eq_false_iff.2 h2
        rw [h2'] at h
        cases h
  · cases h
  · rename_i i hns hno hT
    rw [nth_eq] at h
    refine run_loadVar_one (hS.at hT) ?_ (by rw [hcell]; simpa using h)
    cases i with
    | mk k n b z => cases k <;> first | rfl | exact (hns _ _ _ _ rfl).elim | exact (hno _ _ _ rfl).elim
  · cases h

/-- A variable of the call's own, or a field of it. -/
theorem yl_loadM {o : Oper} {t : Nat} {x : Operand} {b off tb : Nat} {v r : Value} (i : Nat) (hS : Sym P T) (ho : o.op = .load t x) (hx : ev E x = some (.pointer (some ⟨b, off, none⟩))) (hM : nth M i = some (b, .var v, tb))
    (hl : ldv T t v off = some r) : Yl P N G o E U M r := by
  rw [nth_eq] at hM
  exact yl_load_of ho hx fun w hw => ldv_run hS hl (hw.own_at hM)

/-! ### addresses of elements, slice expressions -/
def elt (p : Option Addr) (k : Nat) : Addr := (p.getD default).add k

theorem yl_index {o : Oper} {t e : Nat} {x ix : Operand} {p : Option Addr} {n c j : Nat} {iv : Int} {k : IntKind} {bt bt' bt'' : Nat} {sz : Nat} {z z' : Value} {ek : TK} (hS : Sym P T) (ho : o.op = .indexAddr t x ix) (hx : ev E x = some (.slice p n c)) (hi : ev E ix = some (.int k iv))
    (hT : lkT T t = some ⟨.slice e, bt, bt', z⟩) (he : lkT T e = some ⟨ek, sz, bt'', z'⟩) (hj : iv = (j : Int)) (hlt : j < n) (hp : p.isSome = true) : Yl P N G o E U M (.pointer (some (elt p (j * sz)))) := by
  refine ⟨fun a w ha hw => ?_⟩
  obtain ⟨d, hd, hk⟩ := (hS.at hT).und
  have := kindOf_slice hk
  subst this
  obtain ⟨q, rfl⟩ := Option.isSome_iff_exists.1 hp
  have hsz := (hS.at he).run_size w
  subst hj
  have h1 : (0 : Int) ≤ (j : Int) ∧ (j : Int) < (n : Int) := by omega
  simp [execOp, ho, ha.eval hx, ha.eval hi, Instr.indexAt, asIntOf, run_underlying' hd, hsz, h1, elt, hlt]

theorem yl_index1 {o : Oper} {t e : Nat} {x ix : Operand} {p : Option Addr} {n c j : Nat} {iv : Int} {k : IntKind} {bt bt' bt'' : Nat} {z z' : Value} {ek : TK} (hS : Sym P T) (ho : o.op = .indexAddr t x ix) (hx : ev E x = some (.slice p n c)) (hi : ev E ix = some (.int k iv))
    (hT : lkT T t = some ⟨.slice e, bt, bt', z⟩) (he : lkT T e = some ⟨ek, 1, bt'', z'⟩) (hj : iv = (j : Int)) (hlt : j < n) (hp : p.isSome = true) : Yl P N G o E U M (.pointer (some (elt p j))) := by
  have := yl_index (N := N) (G := G) (U := U) (M := M) hS ho hx hi hT he hj hlt hp
  simpa using this

theorem yl_indexM {o : Oper} {t e : Nat} {x ix : Operand} {b off n c j : Nat} {iv : Int} {k : IntKind} {bt bt' bt'' : Nat} {sz : Nat} {z z' : Value} {ek : TK} (hS : Sym P T) (ho : o.op = .indexAddr t x ix) (hx : ev E x = some (.slice (some ⟨b, off, none⟩) n c)) (hi : ev E ix = some (.int k iv))
    (hT : lkT T t = some ⟨.slice e, bt, bt', z⟩) (he : lkT T e = some ⟨ek, sz, bt'', z'⟩) (hj : iv = (j : Int)) (hlt : j < n) : Yl P N G o E U M (.pointer (some ⟨b, off + j * sz, none⟩)) := by
  have := yl_index (N := N) (G := G) (U := U) (M := M) hS ho hx hi hT he hj hlt rfl
  simpa [elt, add_lit] using this

/-! ### arithmetic that stays in range -/
def ar (op : BinOp) (a b : Int) : Option Int :=
  match op with
  | .add => some (a + b)
  | .sub => some (a - b)
  | .mul => some (a * b)
  | _ => none

theorem yl_bin {o : Oper} {op : BinOp} {ty yt : Nat} {x y : Operand} {k : IntKind} {a b : Int} {v : Value} (ho : o.op = .binOp op ty x y yt) (hx : ev E x = some (.int k a)) (hy : ev E y = some (.int k b))
    (h : (binOp op ty (.int k a) (.int k b)).run P = fun w => .ok v w) : Yl P N G o E U M v := by
  refine ⟨fun ac w ha hw => ?_⟩
  simp only [execOp, ho]
  refine run_value ?_
  simp only [ha.eval hx, ha.eval hy, Sem.run_bind, eqGuard_int, Result.andThen_ok, h]

theorem yl_i64 {o : Oper} {op : BinOp} {ty yt : Nat} {x y : Operand} {a b r : Int} (ho : o.op = .binOp op ty x y yt) (hx : ev E x = some (.int .i64 a)) (hy : ev E y = some (.int .i64 b))
    (hr : ar op a b = some r) (h : -9223372036854775808 ≤ r ∧ r ≤ 9223372036854775807) : Yl P N G o E U M (.int .i64 r) := by
  refine yl_bin ho hx hy (funext fun w => ?_)
  rw [← IntWalk.i64_in r h]
  cases op <;> simp only [ar, Option.some.injEq, reduceCtorEq] at hr <;> subst hr <;> exact intOp_run rfl rfl

theorem yl_u64 {o : Oper} {op : BinOp} {ty yt : Nat} {x y : Operand} {a b r : Int} (ho : o.op = .binOp op ty x y yt) (hx : ev E x = some (.int .u64 a)) (hy : ev E y = some (.int .u64 b))
    (hr : ar op a b = some r) (h : 0 ≤ r ∧ r ≤ 18446744073709551615) : Yl P N G o E U M (.int .u64 r) := by
  refine yl_bin ho hx hy (funext fun w => ?_)
  rw [← IntWalk.u64_in r h]
  cases op <;> simp only [ar, Option.some.injEq, reduceCtorEq] at hr <;> subst hr <;> exact intOp_run rfl rfl

theorem yl_u32 {o : Oper} {op : BinOp} {ty yt : Nat} {x y : Operand} {a b r : Int} (ho : o.op = .binOp op ty x y yt) (hx : ev E x = some (.int .u32 a)) (hy : ev E y = some (.int .u32 b))
    (hr : ar op a b = some r) (h : 0 ≤ r ∧ r ≤ 4294967295) : Yl P N G o E U M (.int .u32 r) := by
  refine yl_bin ho hx hy (funext fun w => ?_)
  rw [← IntWalk.u32_in r h]
  cases op <;> simp only [ar, Option.some.injEq, reduceCtorEq] at hr <;> subst hr <;> exact intOp_run rfl rfl

/-- Quotient and remainder of numbers that are not negative. -/
def dr (op : BinOp) (a b : Int) : Option Int :=
  match op with
  | .quo => some (a / b)
  | .rem => some (a % b)
  | _ => none

def kmax : IntKind → Int
  | .i8 => 127 | .i16 => 32767 | .i32 => 2147483647 | .i64 => 9223372036854775807 | .u8 => 255 | .u16 => 65535 | .u32 => 4294967295 | .u64 => 18446744073709551615

theorem wrap_in {k : IntKind} {n : Int} (h0 : 0 ≤ n) (h1 : n ≤ kmax k) : k.wrap n = n := by
  cases k <;> simp only [kmax] at h1
  · exact IntWalk.i8_in n (by omega)
  · exact IntWalk.i16_in n (by omega)
  · exact IntWalk.i32_in n (by omega)
  · exact IntWalk.i64_in n (by omega)
  · exact IntWalk.u8_in n (by omega)
  · exact IntWalk.u16_in n (by omega)
  · exact IntWalk.u32_in n (by omega)
  · exact IntWalk.u64_in n (by omega)

theorem yl_div {o : Oper} {op : BinOp} {ty yt : Nat} {x y : Operand} {k : IntKind} {a b r : Int} (ho : o.op = .binOp op ty x y yt) (hx : ev E x = some (.int k a)) (hy : ev E y = some (.int k b))
    (hr : dr op a b = some r) (h : 0 ≤ a ∧ a ≤ kmax k ∧ 0 < b) : Yl P N G o E U M (.int k r) := by
  refine yl_bin ho hx hy (funext fun w => ?_)
  have hb : b ≠ 0 := by omega
  have h1 := IntWalk.tdiv_le a b h.1 (by omega)
  cases op <;> simp only [dr, Option.some.injEq, reduceCtorEq] at hr <;> subst hr <;> simp only [binOp, ne_eq, not_true_eq_false, if_false, Op.intDiv, hb]
  · rw [Int.tdiv_eq_ediv_of_nonneg h.1, wrap_in h1.1 (by omega)]; rfl
  · rw [Int.tmod_eq_emod_of_nonneg h.1]; rfl

theorem yl_quoN {o : Oper} {ty yt : Nat} {x y : Operand} {k : IntKind} {a b : Int} {m n : Nat} (ho : o.op = .binOp .quo ty x y yt) (hx : ev E x = some (.int k a)) (hy : ev E y = some (.int k b)) (ha : a = (m : Int)) (hb : b = (n : Int))
    (hm : (m : Int) ≤ kmax k) (h : 0 < n) {q : Nat} (hq : m / n = q) : Yl P N G o E U M (.int k (q : Int)) := by
  subst ha hb hq
  exact yl_div ho hx hy (by simp [dr]) ⟨by omega, hm, by omega⟩
theorem yl_remN {o : Oper} {ty yt : Nat} {x y : Operand} {k : IntKind} {a b : Int} {m n : Nat} (ho : o.op = .binOp .rem ty x y yt) (hx : ev E x = some (.int k a)) (hy : ev E y = some (.int k b)) (ha : a = (m : Int)) (hb : b = (n : Int))
    (hm : (m : Int) ≤ kmax k) (h : 0 < n) {q : Nat} (hq : m % n = q) : Yl P N G o E U M (.int k (q : Int)) := by
  subst ha hb hq
  exact yl_div ho hx hy (by simp [dr]) ⟨by omega, hm, by omega⟩

/-- Quotient and remainder, cut towards nought: by a divisor that is positive. -/
theorem yl_rem {o : Oper} {ty yt : Nat} {x y : Operand} {k : IntKind} {a b : Int} (ho : o.op = .binOp .rem ty x y yt) (hx : ev E x = some (.int k a)) (hy : ev E y = some (.int k b))
    (h : b ≠ 0) : Yl P N G o E U M (.int k (a.tmod b)) := by
  refine yl_bin ho hx hy (funext fun w => ?_)
  simp [binOp, Op.intDiv, h]

theorem yl_shr {o : Oper} {ty yt : Nat} {x y : Operand} {k k' : IntKind} {a b : Int} {n : Nat} (ho : o.op = .binOp .shr ty x y yt) (hx : ev E x = some (.int k a)) (hy : ev E y = some (.int k' b))
    (hb : b = (n : Int)) (h : n ≤ k.bits) : Yl P N G o E U M (.int k (a / 2 ^ n)) := by
  refine ⟨fun ac w ha hw => ?_⟩
  simp only [execOp, ho]
  refine run_value ?_
  subst hb
  have h1 : ¬ ((n : Int) < 0) := by omega
  have h2 : min n k.bits = n := Nat.min_eq_left h
  have h3 : (0 : Int) ≤ 2 ^ n := Int.pow_nonneg (by omega)
  simp only [ha.eval hx, ha.eval hy, Sem.run_bind, eqGuard_int, Result.andThen_ok, binOp, Op.shift, h1, if_false, Int.toNat_natCast, h2, Sem.run_pure, Int.fdiv_eq_ediv_of_nonneg _ h3]

theorem yl_shl {o : Oper} {ty yt : Nat} {x y : Operand} {k k' : IntKind} {a b : Int} {n : Nat} (ho : o.op = .binOp .shl ty x y yt) (hx : ev E x = some (.int k a)) (hy : ev E y = some (.int k' b))
    (hb : b = (n : Int)) (h : n ≤ k.bits) : Yl P N G o E U M (.int k (k.wrap (a * 2 ^ n))) := by
  refine ⟨fun ac w ha hw => ?_⟩
  simp only [execOp, ho]
  refine run_value ?_
  subst hb
  have h1 : ¬ ((n : Int) < 0) := by omega
  have h2 : min n k.bits = n := Nat.min_eq_left h
  simp only [ha.eval hx, ha.eval hy, Sem.run_bind, eqGuard_int, Result.andThen_ok, binOp, Op.shift, h1, if_false, Int.toNat_natCast, h2, Sem.run_pure]

/-- The conversion of a number that fits. -/
theorem yl_conv {o : Oper} {s d : Nat} {x : Operand} {k k' : IntKind} {n : Int} {i : TI} {b c : Nat} {z : Value} (hS : Sym P T) (ho : o.op = .convert s d x) (hx : ev E x = some (.int k n)) (hs : lkT T s = some i) (hd : lkT T d = some ⟨.int k', b, c, z⟩)
    (h0 : 0 ≤ n) (h1 : n ≤ kmax k') : Yl P N G o E U M (.int k' n) := by
  have h := yl_pure (N := N) (G := G) (U := U) (M := M) (o := o) (E := E) (v := .int k' (k'.wrap n)) hS (by simp only [ho, pureOp, hx, hs, hd])
  rwa [wrap_in h0 h1] at h

theorem yl_conv32 {o : Oper} {s d : Nat} {x : Operand} {k : IntKind} {n : Int} {i : TI} {b c : Nat} {z : Value} (hS : Sym P T) (ho : o.op = .convert s d x) (hx : ev E x = some (.int k n)) (hs : lkT T s = some i) (hd : lkT T d = some ⟨.int .u32, b, c, z⟩) : Yl P N G o E U M (.int .u32 (n % 4294967296)) := by
  have h := yl_pure (N := N) (G := G) (U := U) (M := M) (o := o) (E := E) (v := .int .u32 (IntKind.u32.wrap n)) hS (by simp only [ho, pureOp, hx, hs, hd])
  rwa [IntKind.wrap_u32] at h

theorem yl_bits {o : Oper} {op : BinOp} {ty yt : Nat} {x y : Operand} {k : IntKind} {a b : Int} {v : Value} (ho : o.op = .binOp op ty x y yt) (hx : ev E x = some (.int k a)) (hy : ev E y = some (.int k b))
    (h : bitOp op k a b = some v) : Yl P N G o E U M v := yl_bin ho hx hy (funext fun _ => bitOp_run h)
theorem yl_not {o : Oper} {ty : Nat} {x : Operand} {k : IntKind} {n : Int} (ho : o.op = .unOp .xor ty x) (hx : ev E x = some (.int k n)) :
    Yl P N G o E U M (.int k (k.wrap (BitVec.ofInt k.bits (if k.signed then -1 else k.max) ^^^ BitVec.ofInt k.bits n).toNat)) := by
  refine ⟨fun ac w ha hw => ?_⟩
  simp [execOp, ho, ha.eval hx, Op.unary, Op.intBits]

/-- The high half and the low half of a word. -/
theorem yl_or32 {o : Oper} {ty yt : Nat} {x y : Operand} {a b : Int} {m n : Nat} (ho : o.op = .binOp .or ty x y yt) (hx : ev E x = some (.int .u64 a)) (hy : ev E y = some (.int .u64 b)) (ha : a = (m : Int) * 4294967296) (hb : b = (n : Int)) (hm : m < 4294967296) (hn : n < 4294967296) :
    Yl P N G o E U M (.int .u64 ((m * 4294967296 + n : Nat) : Int)) := by
  refine yl_bin ho hx hy (funext fun w => ?_)
  subst ha hb
  have h1 : (BitVec.ofInt 64 ((m : Int) * 4294967296) ||| BitVec.ofInt 64 (n : Int)).toNat = m * 4294967296 + n := by
    have e : ((m : Int) * 4294967296) = ((m * 4294967296 : Nat) : Int) := by omega
    rw [e, BitVec.ofInt_natCast, BitVec.ofInt_natCast, BitVec.toNat_or, BitVec.toNat_ofNat, BitVec.toNat_ofNat, Nat.mod_eq_of_lt (by omega), Nat.mod_eq_of_lt (by omega)]
    have := Nat.shiftLeft_add_eq_or_of_lt (i := 32) (b := n) (by omega) m
    rw [Nat.shiftLeft_eq] at this
    exact this.symm
  simp only [binOp, ne_eq, not_true_eq_false, if_false, Op.intBits, IntKind.bits]
  show Result.ok (Value.int .u64 (IntKind.u64.wrap (((BitVec.ofInt 64 ((m : Int) * 4294967296) ||| BitVec.ofInt 64 (n : Int)).toNat : Nat) : Int))) w = _
  rw [h1, IntWalk.u64_in _ (by omega)]

theorem wrap_u64 (n : Int) : IntKind.u64.wrap n = n % 18446744073709551616 := by
  simp [IntKind.wrap, IntKind.bits, IntKind.signed]

/-! ### slice expressions -/
theorem yl_slice {o : Oper} {t e : Nat} {x : Operand} {lo hi : Option Operand} {p : Option Addr} {n c l h bt bt' bt'' sz : Nat} {z z' : Value} {ek : TK} (hS : Sym P T) (ho : o.op = .slice t x lo hi none) (hx : ev E x = some (.slice p n c))
    (hT : lkT T t = some ⟨.slice e, bt, bt', z⟩) (he : lkT T e = some ⟨ek, sz, bt'', z'⟩)
    (hlo : (lo = none ∧ l = 0) ∨ ∃ y k iv, lo = some y ∧ ev E y = some (.int k iv) ∧ iv = (l : Int)) (hhi : (hi = none ∧ h = n) ∨ ∃ y k iv, hi = some y ∧ ev E y = some (.int k iv) ∧ iv = (h : Int))
    (h1 : l ≤ h) (h2 : h ≤ c) : Yl P N G o E U M (.slice (if c = l then p else p.map (·.add (l * sz))) (h - l) (c - l)) := by
  refine ⟨fun a w ha hw => ?_⟩
  obtain ⟨d, hd, hk⟩ := (hS.at hT).und
  have := kindOf_slice hk
  subst this
  have hsz := (hS.at he).run_size w
  have g1 : (0 : Int) ≤ (l : Int) ∧ (l : Int) ≤ (h : Int) := by omega
  have g2 : (0 : Int) ≤ (h : Int) ∧ (h : Int) ≤ (c : Int) := by omega
  rcases hlo with ⟨rfl, rfl⟩ | ⟨y, k, iv, rfl, hy, rfl⟩ <;> rcases hhi with ⟨rfl, rfl⟩ | ⟨y', k', iv', rfl, hy', rfl⟩
  · simp [execOp, ho, ha.eval hx, Instr.sliceAt, Instr.slice, Instr.sliceBounds, run_underlying' hd, hsz]
  · simp [execOp, ho, ha.eval hx, ha.eval hy', Instr.sliceAt, Instr.slice, Instr.sliceBounds, Instr.sliceBound, asIntOf, run_underlying' hd, hsz, g2, h2]
  · simp [execOp, ho, ha.eval hx, ha.eval hy, Instr.sliceAt, Instr.slice, Instr.sliceBounds, Instr.sliceBound, asIntOf, run_underlying' hd, hsz, g1, h1]
  · simp [execOp, ho, ha.eval hx, ha.eval hy, ha.eval hy', Instr.sliceAt, Instr.slice, Instr.sliceBounds, Instr.sliceBound, asIntOf, run_underlying' hd, hsz, g1, g2, h1, h2]

theorem map_add_zero (p : Option Addr) : p.map (·.add 0) = p := by cases p <;> simp [Addr.add]

/-- 'x[:h]' -/
theorem yl_sliceTo {o : Oper} {t e : Nat} {x y : Operand} {p : Option Addr} {n c h bt bt' bt'' sz : Nat} {z z' : Value} {ek : TK} {k : IntKind} {iv : Int} (hS : Sym P T) (ho : o.op = .slice t x none (some y) none) (hx : ev E x = some (.slice p n c)) (hy : ev E y = some (.int k iv))
    (hT : lkT T t = some ⟨.slice e, bt, bt', z⟩) (he : lkT T e = some ⟨ek, sz, bt'', z'⟩) (hh : iv = (h : Int)) (h2 : h ≤ c) : Yl P N G o E U M (.slice p h c) := by
  have := yl_slice (N := N) (G := G) (U := U) (M := M) hS ho hx hT he (.inl ⟨rfl, rfl⟩) (.inr ⟨y, k, iv, rfl, hy, hh⟩) (Nat.zero_le h) h2
  simpa [map_add_zero] using this

end Go.Hp
