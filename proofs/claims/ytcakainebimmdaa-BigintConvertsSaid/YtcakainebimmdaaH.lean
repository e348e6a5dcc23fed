/- The rules with which the functions are walked: a judgement on known slots (E), settled memory (U) and owned memory (M). Program in general; no condition. -/
import Derived.OrdersHeld
import Derived.Tactics
import Derived.WalkKit
namespace Go.Hp

abbrev Env := List (Nat × Value)
abbrev UH := Nat → Option Obj
abbrev Kont := Exit → Act → World → Prop

def lk : Env → Nat → Option Value
  | [], _ => none
  | (k, v) :: r, t => bif Nat.beq k t then some v else lk r t

def ev (E : Env) : Operand → Option Value
  | .tmp t => lk E t
  | .const v => some v
  | .global g => some (.pointer (some ⟨g, 0, none⟩))
  | .func f => some (.func (.func f) #[] #[])

def evs (E : Env) : List Operand → Option (List Value)
  | [] => some []
  | x :: r => match ev E x with
    | some v => match evs E r with
      | some vs => some (v :: vs)
      | none => none
    | none => none

def Sub : Env → Env → Prop
  | [], _ => True
  | (t, v) :: r, E => lk E t = some v ∧ Sub r E

structure Has (a : Act) (N : Nat) (E : Env) : Prop where
  defers : a.defers = []
  size : a.tmps.size = N
  get : ∀ t v, lk E t = some v → a.tmps[t]? = some v

theorem Has.eval {a : Act} {N : Nat} {E : Env} (h : Has a N E) {x : Operand} {v : Value} (hx : ev E x = some v) : a.eval x = v := by
  cases x with
  | tmp t => simp [Act.eval, h.get t v hx]
  | const u => simp [ev] at hx; simp [Act.eval, hx]
  | global g => simp [ev] at hx; simp [Act.eval, hx]
  | func f => simp [ev] at hx; simp [Act.eval, hx]

theorem Has.evals {a : Act} {N : Nat} {E : Env} (h : Has a N E) : ∀ {l : List Operand} {vs : List Value}, evs E l = some vs → l.map a.eval = vs
  | [], vs, hx => by simp [evs] at hx; simp [hx]
  | x :: r, vs, hx => by
    simp only [evs] at hx
    split at hx
    · rename_i v hv
      split at hx
      · rename_i us hus
        simp only [Option.some.injEq] at hx
        subst hx
        simp [h.eval hv, h.evals hus]
      · cases hx
    · cases hx

theorem beq_ff {k t : Nat} (h : k ≠ t) : Nat.beq k t = false := by
  cases hb : Nat.beq k t
  · rfl
  · exact absurd (Nat.eq_of_beq_eq_true hb) h
theorem lk_cons_ne {k t : Nat} {v : Value} {E : Env} (h : k ≠ t) : lk ((k, v) :: E) t = lk E t := by
  simp only [lk]
  rw [beq_ff h]; rfl
theorem lk_cons_eq {t : Nat} {v : Value} {E : Env} : lk ((t, v) :: E) t = some v := by
  simp [lk]

theorem Has.put {a : Act} {N : Nat} {E : Env} (h : Has a N E) {d : Nat} (hd : Nat.blt d N = true) (v : Value) : Has (a.put (some d) v) N ((d, v) :: E) := by
  have hd' : d < N := Nat.le_of_ble_eq_true hd
  refine ⟨h.defers, by simp [Act.put, h.size], fun t u hu => ?_⟩
  by_cases e : d = t
  · subst e
    rw [lk_cons_eq] at hu
    cases hu
    simp [Act.put, h.size, hd']
  · rw [lk_cons_ne e] at hu
    simp [Act.put, Array.getElem?_setIfInBounds_ne e, h.get t u hu]

theorem Has.put_none {a : Act} {N : Nat} {E : Env} (h : Has a N E) (v : Value) : Has (a.put none v) N E := h

theorem Has.sub {a : Act} {N : Nat} {E : Env} (h : Has a N E) : ∀ {E' : Env}, Sub E' E → Has a N E'
  | [], _ => ⟨h.defers, h.size, fun t v hv => by simp [lk] at hv⟩
  | (k, u) :: r, hs => by
    have ih := h.sub hs.2
    refine ⟨h.defers, h.size, fun t v hv => ?_⟩
    by_cases e : k = t
    · subst e
      rw [lk_cons_eq] at hv
      cases hv
      exact h.get _ _ hs.1
    · rw [lk_cons_ne e] at hv
      exact ih.get t v hv

/-! ### types -/
inductive TK where
  | int (k : IntKind) | bool | str
  | slice (elem : Nat)
  | struct (fs : List (Nat × Nat))
  | other

structure TI where
  k : TK
  size : Nat
  bytes : Nat
  zero : Value

def kindOf : TypeDesc → TK
  | .int k => .int k
  | .bool => .bool
  | .string => .str
  | .slice e => .slice e
  | .struct fs => .struct (fs.toList.map fun f => (f.type, f.offset))
  | _ => .other

structure TI.ok (P : Program) (t : Nat) (i : TI) : Prop where
  info : (P.info? t).map (fun i => (i.zero, i.size, i.bytes)) = some (some i.zero, i.size, i.bytes)
  kind : (P.underlying t).map kindOf = some i.k

abbrev TT := List (Nat × TI)
def lkT : TT → Nat → Option TI
  | [], _ => none
  | (k, v) :: r, t => bif Nat.beq k t then some v else lkT r t

structure Sym (P : Program) (T : TT) : Prop where
  ok : ∀ e ∈ T, TI.ok P e.1 e.2
  mixed : P.follows .mixedOrders = true

theorem lkT_mem : ∀ {T : TT} {t : Nat} {i : TI}, lkT T t = some i → (t, i) ∈ T
  | [], _, _, h => by simp [lkT] at h
  | (k, v) :: r, t, i, h => by
    by_cases e : k = t
    · subst e
      simp [lkT] at h
      simp [h]
    · simp only [lkT, beq_ff e, cond_false] at h
      exact List.mem_cons_of_mem _ (lkT_mem h)

theorem Sym.at {P : Program} {T : TT} (s : Sym P T) {t : Nat} {i : TI} (h : lkT T t = some i) : TI.ok P t i := s.ok _ (lkT_mem h)

theorem TI.ok.run_info {P : Program} {t : Nat} {i : TI} (h : TI.ok P t i) (w : World) : ∃ inf, (typeInfo t).run P w = .ok inf w ∧ P.info? t = some inf ∧ inf.zero = some i.zero ∧ inf.size = i.size ∧ inf.bytes = i.bytes := by
  have h1 := h.info
  cases hi : P.info? t with
  | none => simp [hi] at h1
  | some inf =>
    simp [hi] at h1
    exact ⟨inf, by simp [typeInfo, hi], rfl, h1.1, h1.2.1, h1.2.2⟩

theorem TI.ok.run_size {P : Program} {t : Nat} {i : TI} (h : TI.ok P t i) (w : World) : (sizeOf t).run P w = .ok i.size w := by
  obtain ⟨inf, h1, _, _, h2, _⟩ := h.run_info w
  simp [sizeOf, h1, h2]

theorem TI.ok.run_zero {P : Program} {t : Nat} {i : TI} (h : TI.ok P t i) (w : World) : (zeroValue t).run P w = .ok i.zero w := by
  obtain ⟨inf, h1, _, h2, _⟩ := h.run_info w
  simp [zeroValue, h1, h2]

theorem TI.ok.und {P : Program} {t : Nat} {i : TI} (h : TI.ok P t i) : ∃ d, P.underlying t = some d ∧ kindOf d = i.k := by
  have := h.kind
  cases hu : P.underlying t with
  | none => simp [hu] at this
  | some d => simp [hu] at this; exact ⟨d, rfl, this⟩

theorem kindOf_int {d : TypeDesc} {k : IntKind} (h : kindOf d = .int k) : d = .int k := by cases d <;> simp [kindOf] at h; rw [h]
theorem kindOf_bool {d : TypeDesc} (h : kindOf d = .bool) : d = .bool := by cases d <;> simp [kindOf] at h; rfl
theorem kindOf_str {d : TypeDesc} (h : kindOf d = .str) : d = .string := by cases d <;> simp [kindOf] at h; rfl
theorem kindOf_slice {d : TypeDesc} {e : Nat} (h : kindOf d = .slice e) : d = .slice e := by cases d <;> simp [kindOf] at h; rw [h]
theorem kindOf_struct {d : TypeDesc} {fs : List (Nat × Nat)} (h : kindOf d = .struct fs) : ∃ g : Array Field, d = .struct g ∧ g.toList.map (fun f => (f.type, f.offset)) = fs := by
  cases d <;> simp [kindOf] at h
  exact ⟨_, rfl, h⟩

theorem run_underlying' {P : Program} {t : Nat} {d : TypeDesc} (h : P.underlying t = some d) (w : World) : (underlying t).run P w = .ok d w := by
  simp [underlying, h]


/-! ### operations whose value hangs on the slots alone -/
/-- A test: kept closed, so that no tactic tries to compute it. -/
@[irreducible] def dec (p : Prop) [Decidable p] : Bool := decide p
theorem dec_eq (p : Prop) [Decidable p] : dec p = decide p := by unfold dec; rfl
theorem of_dec {p : Prop} [Decidable p] (h : dec p = true) : p := by rw [dec_eq] at h; exact of_decide_eq_true h
theorem of_dec_not {p : Prop} [Decidable p] (h : dec p = false) : ¬ p := by rw [dec_eq] at h; exact of_decide_eq_false h
theorem dec_true {p : Prop} [Decidable p] (h : p) : dec p = true := by rw [dec_eq]; exact decide_eq_true h
theorem dec_false {p : Prop} [Decidable p] (h : ¬ p) : dec p = false := by rw [dec_eq]; exact decide_eq_false h

def intOp (op : BinOp) (k : IntKind) (a b : Int) : Option Value :=
  match op with
  | .add => some (.int k (k.wrap (a + b)))
  | .sub => some (.int k (k.wrap (a - b)))
  | .mul => some (.int k (k.wrap (a * b)))
  | .eql => some (.bool (dec (a = b)))
  | .neq => some (.bool (dec (a ≠ b)))
  | .lss => some (.bool (dec (a < b)))
  | .leq => some (.bool (dec (a ≤ b)))
  | .gtr => some (.bool (dec (a > b)))
  | .geq => some (.bool (dec (a ≥ b)))
  | .quo => bif b == 0 then none else some (.int k (k.wrap (a.tdiv b)))
  | .rem => bif b == 0 then none else some (.int k (a.tmod b))
  | _ => none

def bitOp (op : BinOp) (k : IntKind) (a b : Int) : Option Value :=
  match op with
  | .and => some (.int k (k.wrap (BitVec.ofInt k.bits a &&& BitVec.ofInt k.bits b).toNat))
  | .or => some (.int k (k.wrap (BitVec.ofInt k.bits a ||| BitVec.ofInt k.bits b).toNat))
  | .xor => some (.int k (k.wrap (BitVec.ofInt k.bits a ^^^ BitVec.ofInt k.bits b).toNat))
  | _ => none

def shOp (op : BinOp) (k : IntKind) (a b : Int) : Option Value :=
  match op with
  | .shl => bif decide (b < 0) then none else some (.int k (k.wrap (a * 2 ^ (min b.toNat k.bits))))
  | .shr => bif decide (b < 0) then none else some (.int k (a.fdiv (2 ^ (min b.toNat k.bits))))
  | _ => none

def isSh : BinOp → Bool
  | .shl | .shr => true
  | _ => false

def kEq : IntKind → IntKind → Bool
  | .i8, .i8 | .i16, .i16 | .i32, .i32 | .i64, .i64 | .u8, .u8 | .u16, .u16 | .u32, .u32 | .u64, .u64 => true
  | _, _ => false
theorem kEq_eq {a b : IntKind} (h : kEq a b = true) : a = b := by cases a <;> cases b <;> simp [kEq] at h <;> rfl

def nth {α : Type} : List α → Nat → Option α
  | [], _ => none
  | x :: _, 0 => some x
  | _ :: r, n + 1 => nth r n
theorem nth_eq {α : Type} : ∀ (l : List α) (n : Nat), nth l n = l[n]?
  | [], n => by simp [nth]
  | x :: r, 0 => by simp [nth]
  | x :: r, n + 1 => by simp [nth, nth_eq r n]

def places (T : TT) : List (Nat × Nat) → Option (List (Nat × Nat))
  | [] => some []
  | (ft, off) :: r => match lkT T ft with
    | some i => match places T r with
      | some ps => some ((off, i.size) :: ps)
      | none => none
    | none => none

def evP (E : Env) : List (Nat × Operand) → Option (List (Nat × Value))
  | [] => some []
  | (i, x) :: r => match ev E x with
    | some v => match evP E r with
      | some vs => some ((i, v) :: vs)
      | none => none
    | none => none

def setSeg (cs : List Value) (off : Nat) (vs : List Value) : List Value := cs.take off ++ vs ++ cs.drop (off + vs.length)

def fillL (ps : List (Nat × Nat)) (cs : List Value) : List (Nat × Value) → Option (List Value)
  | [] => some cs
  | (i, v) :: r => match nth ps i with
    | some (off, size) => bif Nat.beq v.cells.toList.length size && Nat.ble (off + v.cells.toList.length) cs.length then fillL ps (setSeg cs off v.cells.toList) r else none
    | none => none

/-- The value that an operation yields from the slots alone, in whatever world. -/
def pureOp (T : TT) (E : Env) : Op → Option Value
  | .move x | .assign x => ev E x
  | .pick c a b => match ev E c with
    | some (.bool true) => ev E a
    | some (.bool false) => ev E b
    | _ => none
  | .binOp op ty x y _ => match ev E x, ev E y with
    | some (.int k a), some (.int k' b) => bif isSh op then none else bif kEq k k' then intOp op k a b else none
    | some (.bool a), some (.bool b) => match op, lkT T ty with
      | .eql, some ⟨.bool, _, _, _⟩ => some (.bool (a == b))
      | .neq, some ⟨.bool, _, _, _⟩ => some (.bool (!(a == b)))
      | _, _ => none
    | some (.slice p _ _), some (.slice none _ _) => match op, lkT T ty with
      | .eql, some ⟨.slice _, _, _, _⟩ => some (.bool p.isNone)
      | .neq, some ⟨.slice _, _, _, _⟩ => some (.bool (!p.isNone))
      | _, _ => none
    | _, _ => none
  | .unOp op _ x => match op, ev E x with
    | .neg, some (.int k n) => some (.int k (k.wrap (0 - n)))
    | .not, some (.bool b) => some (.bool (!b))
    | _, _ => none
  | .extract x i => match ev E x with
    | some (.tuple vs) => nth vs.toList i
    | _ => none
  | .nilCheck x => match ev E x with
    | some (.pointer (some a)) => some (.pointer (some a))
    | _ => none
  | .fieldAddr s x f => match ev E x, lkT T s with
    | some (.pointer (some a)), some ⟨.struct fs, _, _, _⟩ => match fs[f]? with
      | some (ft, off) => match lkT T ft with
        | some ⟨_, _ + 1, _, _⟩ => some (.pointer (some (a.add off)))
        | _ => none
      | none => none
    | _, _ => none
  | .convert s d x => match ev E x, lkT T s, lkT T d with
    | some (.int _ n), some _, some ⟨.int k, _, _, _⟩ => some (.int k (k.wrap n))
    | _, _, _ => none
  | .call c => match c.callee, c.args.toList, c.argTypes.toList with
    | .builtin .len, [x], [t] => match ev E x, lkT T t with
      | some (.slice _ n _), some ⟨.slice _, _, _, _⟩ => some (.int .i64 (n : Int))
      | some (.string s), some ⟨.str, _, _, _⟩ => some (.int .i64 (s.size : Int))
      | _, _ => none
    | .builtin .min, [x, y], _ => match ev E x, ev E y with
      | some (.int k a), some (.int k' b) => bif kEq k k' then some (.int k (if b < a then b else a)) else none
      | _, _ => none
    | .builtin .max, [x, y], _ => match ev E x, ev E y with
      | some (.int k a), some (.int k' b) => bif kEq k k' then some (.int k (if b > a then b else a)) else none
      | _, _ => none
    | _, _, _ => none
  | .build t parts => match lkT T t with
    | some ⟨.struct fs, _, _, z⟩ => match places T fs, evP E parts.toList with
      | some ps, some vs => match fillL ps z.cells.toList vs with
        | some cs => some (.agg cs.toArray)
        | none => none
      | _, _ => none
    | _ => none
  | _ => none

theorem shOp_run {P : Program} {w : World} {op : BinOp} {k k' : IntKind} {a b : Int} {v : Value} (h : shOp op k a b = some v) : (Op.shift op k a k' b).run P w = .ok v w := by
  unfold shOp at h
  split at h
  · by_cases hb : b < 0
    · simp [hb] at h
    · simp only [hb, decide_false, cond_false, Option.some.injEq] at h
      subst h
      simp [Op.shift, hb]
  · by_cases hb : b < 0
    · simp [hb] at h
    · simp only [hb, decide_false, cond_false, Option.some.injEq] at h
      subst h
      simp [Op.shift, hb]
  · cases h

theorem beq_dec (a b : Int) : (a == b) = decide (a = b) := rfl
theorem bne_dec (a b : Int) : (a != b) = decide (a ≠ b) := by
  by_cases h : a = b
  · simp [h]
  · simp [h]
theorem intOp_run {P : Program} {w : World} {op : BinOp} {t : TypeId} {k : IntKind} {a b : Int} {v : Value} (h : intOp op k a b = some v) (hs : isSh op = false) : (binOp op t (.int k a) (.int k b)).run P w = .ok v w := by
  cases op <;> simp only [intOp, isSh, Option.some.injEq, reduceCtorEq] at h hs <;> try subst h
  all_goals simp only [binOp, ne_eq, not_true_eq_false, if_false]
  all_goals try (simp only [Op.intArith, Op.intCmp, dec_eq, beq_dec, bne_dec]; rfl)
  all_goals
    by_cases hb : b = 0
    · subst hb; simp at h
    · have hb' : (b == 0) = false := by simpa using hb
      simp only [hb', cond_false, Option.some.injEq] at h
      subst h
      simp [Op.intDiv, hb]

theorem bitOp_run {P : Program} {w : World} {op : BinOp} {t : TypeId} {k : IntKind} {a b : Int} {v : Value} (h : bitOp op k a b = some v) : (binOp op t (.int k a) (.int k b)).run P w = .ok v w := by
  cases op <;> simp only [bitOp, Option.some.injEq, reduceCtorEq] at h <;> subst h <;> simp [binOp, Op.intBits]

theorem run_value {P : Program} {w w' : World} {s : Sem Value} {v : Value} (h : s.run P w = .ok v w') : (do let x ← s; pure (Next.value x) : Sem Next).run P w = .ok (.value v) w' := by
  simp [h]

theorem eqGuard_int {P : Program} {w : World} {op : BinOp} {t : TypeId} {x y : Operand} {k k' : IntKind} {a b : Int} : (eqGuard op t x y (.int k a) (.int k' b)).run P w = .ok () w := by
  cases op <;> simp [eqGuard]
theorem eqGuard_bool {P : Program} {w : World} {op : BinOp} {t : TypeId} {x y : Operand} {a b : Bool} : (eqGuard op t x y (.bool a) (.bool b)).run P w = .ok () w := by
  cases op <;> simp [eqGuard]

theorem evP_eq {a : Act} {N : Nat} {E : Env} (h : Has a N E) : ∀ {l : List (Nat × Operand)} {vs : List (Nat × Value)}, evP E l = some vs → l.map (fun p => (p.1, a.eval p.2)) = vs
  | [], vs, hx => by simp [evP] at hx; simp [hx]
  | (i, x) :: r, vs, hx => by
    simp only [evP] at hx
    split at hx
    · rename_i v hv
      split at hx
      · rename_i us hus
        simp only [Option.some.injEq] at hx
        subst hx
        simp [h.eval hv, evP_eq h hus]
      · cases hx
    · cases hx

theorem foldl_seg : ∀ (vs : List Value) (cs : Array Value) (off k : Nat), off + k + vs.length ≤ cs.size →
    ((vs.zipIdx k).foldl (fun (cs : Array Value) (p : Value × Nat) => cs.setIfInBounds (off + p.2) p.1) cs).toList = setSeg cs.toList (off + k) vs
  | [], cs, off, k, h => by simp [setSeg]
  | v :: vs, cs, off, k, h => by
    simp only [List.length_cons] at h
    rw [List.zipIdx_cons, List.foldl_cons, foldl_seg vs _ off (k + 1) (by simp; omega)]
    have h1 : off + k < cs.toList.length := by simp; omega
    have e2 : (cs.toList.take (off + k)).length = off + k := by rw [List.length_take]; omega
    have t1 : ∀ (A R : List Value), (A ++ v :: R).take (A.length + 1) = A ++ [v] := fun A R => by
      rw [List.take_append, List.take_of_length_le (by omega)]; simp
    have t2 : ∀ (A R : List Value) (m : Nat), (A ++ v :: R).drop (A.length + 1 + m) = R.drop m := fun A R m => by
      rw [List.drop_append, List.drop_eq_nil_of_le (by omega)]
      have : A.length + 1 + m - A.length = m + 1 := by omega
      rw [this]; rfl
    have h2 : (cs.setIfInBounds (off + k) v).toList = cs.toList.take (off + k) ++ v :: cs.toList.drop (off + k + 1) := by
      rw [Array.toList_setIfInBounds, List.set_eq_take_append_cons_drop, if_pos h1]
    have u1 := t1 (cs.toList.take (off + k)) (cs.toList.drop (off + k + 1))
    have u2 := t2 (cs.toList.take (off + k)) (cs.toList.drop (off + k + 1)) vs.length
    rw [e2] at u1 u2
    simp only [setSeg, h2, ← Nat.add_assoc, u1, u2, List.length_cons, List.append_assoc, List.singleton_append, List.drop_drop]
    have : off + k + 1 + vs.length = off + k + vs.length + 1 := by omega
    rw [this]

theorem fillL_eq (ps : List (Nat × Nat)) : ∀ (vs : List (Nat × Value)) (cs : List Value) (r : List Value), fillL ps cs vs = some r → Instr.fill (fun i => ps[i]?) cs.toArray vs = some r.toArray
  | [], cs, r, h => by simp [fillL] at h; simp [Instr.fill, h]
  | (i, v) :: vs, cs, r, h => by
    simp only [fillL] at h
    split at h
    · rename_i off size hp
      by_cases hc : (Nat.beq v.cells.toList.length size && Nat.ble (off + v.cells.toList.length) cs.length) = true
      · rw [hc] at h
        simp only [cond_true] at h
        simp only [Bool.and_eq_true] at hc
        have h1 := Nat.eq_of_beq_eq_true hc.1
        have h2 := Nat.le_of_ble_eq_true hc.2
        have ih := fillL_eq ps vs _ r h
        rw [nth_eq] at hp
        have h3 : (v.cells.size ≠ size || off + v.cells.size > cs.toArray.size) = false := by
          simp at h1 h2 ⊢; omega
        simp only [Instr.fill, hp, h3, Bool.false_eq_true, if_false]
        rw [← ih]
        congr 1
        apply Array.ext'
        have := foldl_seg v.cells.toList cs.toArray off 0 (by simp at h2 ⊢; omega)
        simp only [Nat.add_zero] at this ⊢
        rw [← this]
        congr 1
        rw [← Array.foldl_toList, Array.toList_zipIdx]
      · have : (Nat.beq v.cells.toList.length size && Nat.ble (off + v.cells.toList.length) cs.length) = false := Bool.eq_false_iff.2 hc
        rw [this] at h
        cases h
    · cases h

theorem run_places {P : Program} {T : TT} (hS : Sym P T) (w : World) : ∀ (g : List Field) (ps : List (Nat × Nat)), places T (g.map fun f => (f.type, f.offset)) = some ps →
    (g.mapM fun f => (do pure (f.offset, ← sizeOf f.type) : Sem (Nat × Nat))).run P w = .ok ps w
  | [], ps, h => by simp [places] at h; simp [h]
  | f :: g, ps, h => by
    simp only [List.map_cons, places] at h
    split at h
    · rename_i i hi
      split at h
      · rename_i ps' hps
        simp only [Option.some.injEq] at h
        subst h
        have h1 := (hS.at hi).run_size w
        have h2 := run_places hS w g ps' hps
        simp only [List.mapM_cons, Sem.run_bind, h1, Result.andThen_ok, Sem.run_pure, h2]
      · cases h
    · cases h

theorem eql_slice_nil {P : Program} {w : World} {t e : TypeId} {p : Option Addr} {n c n' c' : Nat} (hd : P.underlying t = some (.slice e)) : (binOp .eql t (.slice p n c) (.slice none n' c')).run P w = .ok (.bool p.isNone) w := by
  have : ∀ d, (Op.equalIn (d + 1) t (.slice p n c) (.slice none n' c')).run P w = .ok p.isNone w := by
    intro d
    cases p <;> simp [Op.equalIn, run_underlying' hd]
  simp only [binOp, Op.equal, Op.maxDepth, Sem.run_bind, this 9999, Result.andThen_ok, Sem.run_pure]
theorem neq_slice_nil {P : Program} {w : World} {t e : TypeId} {p : Option Addr} {n c n' c' : Nat} (hd : P.underlying t = some (.slice e)) : (binOp .neq t (.slice p n c) (.slice none n' c')).run P w = .ok (.bool (!p.isNone)) w := by
  have : ∀ d, (Op.equalIn (d + 1) t (.slice p n c) (.slice none n' c')).run P w = .ok p.isNone w := by
    intro d
    cases p <;> simp [Op.equalIn, run_underlying' hd]
  simp only [binOp, Op.equal, Op.maxDepth, Sem.run_bind, this 9999, Result.andThen_ok, Sem.run_pure]
theorem eqGuard_slice {P : Program} {w : World} {op : BinOp} {t : TypeId} {x y : Operand} {p q : Option Addr} {n c n' c' : Nat} : (eqGuard op t x y (.slice p n c) (.slice q n' c')).run P w = .ok () w := by
  cases op <;> simp [eqGuard]

theorem equalIn_bool {P : Program} {w : World} {t : TypeId} {a b : Bool} (hd : P.underlying t = some .bool) (d : Nat) : (Op.equalIn (d + 1) t (.bool a) (.bool b)).run P w = .ok (a == b) w := by
  simp [Op.equalIn, run_underlying' hd]
theorem eql_bool {P : Program} {w : World} {t : TypeId} {a b : Bool} (hd : P.underlying t = some .bool) : (binOp .eql t (.bool a) (.bool b)).run P w = .ok (.bool (a == b)) w := by
  simp only [binOp, Op.equal, Op.maxDepth, Sem.run_bind, equalIn_bool hd 9999, Result.andThen_ok, Sem.run_pure]
theorem neq_bool {P : Program} {w : World} {t : TypeId} {a b : Bool} (hd : P.underlying t = some .bool) : (binOp .neq t (.bool a) (.bool b)).run P w = .ok (.bool (!(a == b))) w := by
  simp only [binOp, Op.equal, Op.maxDepth, Sem.run_bind, equalIn_bool hd 9999, Result.andThen_ok, Sem.run_pure]

theorem pureOp_run {P : Program} {T : TT} {E : Env} {o : Oper} {v : Value} (hS : Sym P T) (h : pureOp T E o.op = some v) {a : Act} {N : Nat} (ha : Has a N E) (w : World) :
    (execOp a.eval o).run P w = .ok (.value v) w := by
  unfold execOp
  generalize o.op = opn at h
  unfold pureOp at h
  split at h
  · simp [ha.eval h]
  · simp [ha.eval h]
  · split at h
    · rename_i hc; simp [ha.eval hc, ha.eval h, asBool]
    · rename_i hc; simp [ha.eval hc, ha.eval h, asBool]
    · cases h
  · split at h
    · rename_i op _ _ _ _ _ _ k a' k' b hx hy
      refine run_value ?_
      simp only [ha.eval hx, ha.eval hy, Sem.run_bind, eqGuard_int, Result.andThen_ok]
      cases hs : isSh op
      · rw [hs] at h
        simp only [cond_false] at h
        cases hk : kEq k k'
        · rw [hk] at h; cases h
        · rw [hk] at h
          have := kEq_eq hk
          subst this
          exact intOp_run h hs
      · rw [hs] at h
        simp only [cond_true] at h
        cases h
    · rename_i a' b hx hy
      refine run_value ?_
      simp only [ha.eval hx, ha.eval hy, Sem.run_bind, eqGuard_bool, Result.andThen_ok]
      split at h
      · rename_i hT
        obtain ⟨d, hd, hk⟩ := (hS.at hT).und
        have := kindOf_bool hk
        subst this
        simp only [Option.some.injEq] at h
        subst h
        exact eql_bool hd
      · rename_i hT
        obtain ⟨d, hd, hk⟩ := (hS.at hT).und
        have := kindOf_bool hk
        subst this
        simp only [Option.some.injEq] at h
        subst h
        exact neq_bool hd
      · cases h
    · rename_i p _ _ _ _ hx hy
      refine run_value ?_
      simp only [ha.eval hx, ha.eval hy, Sem.run_bind, eqGuard_slice, Result.andThen_ok]
      split at h
      · rename_i hT
        obtain ⟨d, hd, hk⟩ := (hS.at hT).und
        have := kindOf_slice hk
        subst this
        simp only [Option.some.injEq] at h
        subst h
        exact eql_slice_nil hd
      · rename_i hT
        obtain ⟨d, hd, hk⟩ := (hS.at hT).und
        have := kindOf_slice hk
        subst this
        simp only [Option.some.injEq] at h
        subst h
        exact neq_slice_nil hd
      · cases h
    · cases h
  · split at h
    · rename_i hx
      simp only [Option.some.injEq] at h
      subst h
      simp [ha.eval hx, Op.unary, Op.intArith]
    · rename_i hx
      simp only [Option.some.injEq] at h
      subst h
      simp [ha.eval hx, Op.unary]
    · cases h
  · split at h
    · rename_i hx
      rw [nth_eq] at h
      simp only [Array.getElem?_toList] at h
      simp [ha.eval hx, Instr.extract, h]
    · cases h
  · split at h
    · rename_i hx
      simp only [Option.some.injEq] at h
      subst h
      simp [ha.eval hx]
    · cases h
  · split at h
    · rename_i s x f _ _ ad fs _ _ _ hx hT
      split at h
      · rename_i ft off hf
        split at h
        · rename_i hft
          obtain ⟨d, hd, hk⟩ := (hS.at hT).und
          obtain ⟨g, rfl, hg⟩ := kindOf_struct hk
          simp only [Option.some.injEq] at h
          subst h
          rw [← hg] at hf
          simp only [List.getElem?_map, Array.getElem?_toList, Option.map_eq_some_iff] at hf
          obtain ⟨fd, hfd, hfe⟩ := hf
          simp only [Prod.mk.injEq] at hfe
          obtain ⟨rfl, rfl⟩ := hfe
          have hsz := (hS.at hft).run_size w
          simp [ha.eval hx, Instr.fieldAt, run_underlying' hd, hfd, Instr.sureAddr, fieldPlace, hsz]
        · cases h
      · cases h
    · cases h
  · split at h
    · rename_i hx hs hT
      obtain ⟨d, hd, hk⟩ := (hS.at hT).und
      obtain ⟨d', hd', hk'⟩ := (hS.at hs).und
      have := kindOf_int hk
      subst this
      simp only [Option.some.injEq] at h
      subst h
      simp [ha.eval hx, convert, run_underlying' hd, run_underlying' hd', Conv.intToInt]
    · cases h
  · split at h
    · rename_i c _ _ _ x t hcal hargs htys
      have e1 : c.args = #[x] := by rw [← Array.toArray_toList (xs := c.args), hargs]
      have e2 : c.argTypes = #[t] := by rw [← Array.toArray_toList (xs := c.argTypes), htys]
      split at h
      · rename_i hx hT
        obtain ⟨d, hd, hk⟩ := (hS.at hT).und
        have := kindOf_slice hk
        subst this
        simp only [Option.some.injEq] at h
        subst h
        simp [ha.eval hx, resolve, hcal, e1, e2, invoke, builtin, Builtin.len_, run_underlying' hd, goInt]
      · rename_i hx hT
        obtain ⟨d, hd, hk⟩ := (hS.at hT).und
        have := kindOf_str hk
        subst this
        simp only [Option.some.injEq] at h
        subst h
        simp [ha.eval hx, resolve, hcal, e1, e2, invoke, builtin, Builtin.len_, run_underlying' hd, goInt]
      · cases h
    · rename_i c _ _ _ x y hcal hargs
      have e1 : c.args = #[x, y] := by rw [← Array.toArray_toList (xs := c.args), hargs]
      split at h
      · rename_i k a' k' b' hx hy
        cases hk : kEq k k'
        · rw [hk] at h; cases h
        · rw [hk] at h
          have := kEq_eq hk
          subst this
          simp only [cond_true, Option.some.injEq] at h
          subst h
          simp [ha.eval hx, ha.eval hy, resolve, hcal, e1, invoke, builtin, Builtin.min_, Builtin.min2]
      · cases h
    · rename_i c _ _ _ x y hcal hargs
      have e1 : c.args = #[x, y] := by rw [← Array.toArray_toList (xs := c.args), hargs]
      split at h
      · rename_i k a' k' b' hx hy
        cases hk : kEq k k'
        · rw [hk] at h; cases h
        · rw [hk] at h
          have := kEq_eq hk
          subst this
          simp only [cond_true, Option.some.injEq] at h
          subst h
          simp [ha.eval hx, ha.eval hy, resolve, hcal, e1, invoke, builtin, Builtin.max_, Builtin.max2]
      · cases h
    · cases h
  · rename_i t parts
    split at h
    · rename_i fs _ _ z hT
      split at h
      · rename_i ps vs hps hvs
        split at h
        · rename_i cs hcs
          simp only [Option.some.injEq] at h
          subst h
          obtain ⟨d, hd, hk⟩ := (hS.at hT).und
          obtain ⟨g, rfl, hg⟩ := kindOf_struct hk
          have hg' : g.toList.map (fun f => (f.type, f.offset)) = fs := hg
          rw [← hg'] at hps
          have h1 := run_places hS w g.toList ps hps
          have h2 := fillL_eq ps vs _ cs hcs
          have h3 := evP_eq ha hvs
          have hz := (hS.at hT).run_zero w
          have h4 : (g.mapM fun f => (do pure (f.offset, ← sizeOf f.type) : Sem (Nat × Nat))).run P w = .ok ps.toArray w := by
            rw [← Array.toArray_toList (xs := g), List.mapM_toArray]
            simp only [Sem.run_map, h1, Result.andThen_ok]
          have h5 : (parts.map fun (p : Nat × Operand) => (p.1, a.eval p.2)).toList = vs := by rw [Array.toList_map]; exact h3
          refine run_value ?_
          have h6 : (fun i : Nat => ps.toArray[i]?) = fun i : Nat => ps[i]? := by funext i; simp
          simp only [Instr.build, Sem.run_bind, hz, Result.andThen_ok, run_underlying' hd, h4, h5, h6]
          have h7 : z.cells = z.cells.toList.toArray := by simp
          rw [h7, h2]
          rfl
        · cases h
      · cases h
    · cases h
  · cases h

end Go.Hp
