/- Texts of this seat's own, merged: each begins with its own remark. -/
import Derived.OrdersHeld
import Derived.Tactics
import Derived.WalkKit
/- The rules with which the functions are walked: a judgement on known slots (E), settled memory (U) and owned memory (M). Program in general; no condition. -/
namespace Go.Hp
abbrev Env := List (Nat × Value)
abbrev UH := Nat → Option Obj
abbrev Kont := Exit → Act → World → Prop
def lk : Env → Nat → Option Value
 | [], _ => none
 | (k, v) :: r, t => bif Nat.beq k t then some v else lk r t
def ev (E : Env) : Operand → Option Value
 | .tmp t => lk E t
 | .const v => some v
 | .global g => some (.pointer (some ⟨g, 0, none⟩))
 | .func f => some (.func (.func f) #[] #[])
def evs (E : Env) : List Operand → Option (List Value)
 | [] => some []
 | x :: r => match ev E x with
  | some v => match evs E r with
   | some vs => some (v :: vs)
   | none => none
  | none => none
def Sub : Env → Env → Prop
 | [], _ => True
 | (t, v) :: r, E => lk E t = some v ∧ Sub r E
structure Has (a : Act) (N : Nat) (E : Env) : Prop where
 defers : a.defers = []
 size : a.tmps.size = N
 get : ∀ t v, lk E t = some v → a.tmps[t]? = some v
theorem Has.eval {a : Act} {N : Nat} {E : Env} (h : Has a N E) {x : Operand} {v : Value} (hx : ev E x = some v) : a.eval x = v := by
 cases x with
 | tmp t => simp [Act.eval, h.get t v hx]
 | const u => simp [ev] at hx; simp [Act.eval, hx]
 | global g => simp [ev] at hx; simp [Act.eval, hx]
 | func f => simp [ev] at hx; simp [Act.eval, hx]
theorem Has.evals {a : Act} {N : Nat} {E : Env} (h : Has a N E) : ∀ {l : List Operand} {vs : List Value}, evs E l = some vs → l.map a.eval = vs
 | [], vs, hx => by simp [evs] at hx; simp [hx]
 | x :: r, vs, hx => by
  simp only [evs] at hx
  split at hx
  ·rename_i v hv
   split at hx
   ·rename_i us hus
    simp only [Option.some.injEq] at hx
    subst hx
    simp [h.eval hv, h.evals hus]
   ·cases hx
  ·cases hx
theorem Qel {k t : Nat} (h : k ≠ t) : Nat.beq k t = false := by
 cases hb : Nat.beq k t
 ·rfl
 ·exact absurd (Nat.eq_of_beq_eq_true hb) h
theorem QS {k t : Nat} {v : Value} {E : Env} (h : k ≠ t) : lk ((k, v) :: E) t = lk E t := by
 simp only [lk]
 rw [Qel h]; rfl
theorem Jo {t : Nat} {v : Value} {E : Env} : lk ((t, v) :: E) t = some v := by
 simp [lk]
theorem Has.put {a : Act} {N : Nat} {E : Env} (h : Has a N E) {d : Nat} (hd : Nat.blt d N = true) (v : Value) : Has (a.put (some d) v) N ((d, v) :: E) := by
 have hd' : d < N := Nat.le_of_ble_eq_true hd
 refine ⟨h.defers, by simp [Act.put, h.size], fun t u hu => ?_⟩
 by_cases e : d = t
 ·subst e
  rw [Jo] at hu
  cases hu
  simp [Act.put, h.size, hd']
 ·rw [QS e] at hu
  simp [Act.put, Array.getElem?_setIfInBounds_ne e, h.get t u hu]
theorem Has.sub {a : Act} {N : Nat} {E : Env} (h : Has a N E) : ∀ {E' : Env}, Sub E' E → Has a N E'
 | [], _ => ⟨h.defers, h.size, fun t v hv => by simp [lk] at hv⟩
 | (k, u) :: r, hs => by
  have ih := h.sub hs.2
  refine ⟨h.defers, h.size, fun t v hv => ?_⟩
  by_cases e : k = t
  ·subst e
   rw [Jo] at hv
   cases hv
   exact h.get _ _ hs.1
  ·rw [QS e] at hv
   exact ih.get t v hv
inductive TK where
 | int (k : IntKind) | bool | str
 | slice (elem : Nat)
 | struct (fs : List (Nat × Nat))
 | other
structure TI where
 k : TK
 size : Nat
 bytes : Nat
 zero : Value
def kindOf : TypeDesc → TK
 | .int k => .int k
 | .bool => .bool
 | .string => .str
 | .slice e => .slice e
 | .struct fs => .struct (fs.toList.map fun f => (f.type, f.offset))
 | _ => .other
structure TI.ok (P : Program) (t : Nat) (i : TI) : Prop where
 info : (P.info? t).map (fun i => (i.zero, i.size, i.bytes)) = some (some i.zero, i.size, i.bytes)
 kind : (P.underlying t).map kindOf = some i.k
abbrev TT := List (Nat × TI)
def lkT : TT → Nat → Option TI
 | [], _ => none
 | (k, v) :: r, t => bif Nat.beq k t then some v else lkT r t
structure Sym (P : Program) (T : TT) : Prop where
 ok : ∀ e ∈ T, TI.ok P e.1 e.2
 mixed : P.follows .mixedOrders = true
theorem Qcn : ∀ {T : TT} {t : Nat} {i : TI}, lkT T t = some i → (t, i) ∈ T
 | [], _, _, h => by simp [lkT] at h
 | (k, v) :: r, t, i, h => by
  by_cases e : k = t
  ·subst e
   simp [lkT] at h
   simp [h]
  ·simp only [lkT, Qel e, cond_false] at h
   exact List.mem_cons_of_mem _ (Qcn h)
theorem Sym.at {P : Program} {T : TT} (s : Sym P T) {t : Nat} {i : TI} (h : lkT T t = some i) : TI.ok P t i := s.ok _ (Qcn h)
theorem TI.ok.run_info {P : Program} {t : Nat} {i : TI} (h : TI.ok P t i) (w : World) : ∃ inf, (typeInfo t).run P w = .ok inf w ∧ P.info? t = some inf ∧ inf.zero = some i.zero ∧ inf.size = i.size ∧ inf.bytes = i.bytes := by
 have h1 := h.info
 cases hi : P.info? t with
 | none => simp [hi] at h1
 | some inf =>
  simp [hi] at h1
  exact ⟨inf, by simp [typeInfo, hi], rfl, h1.1, h1.2.1, h1.2.2⟩
theorem TI.ok.run_size {P : Program} {t : Nat} {i : TI} (h : TI.ok P t i) (w : World) : (sizeOf t).run P w = .ok i.size w := by
 obtain ⟨inf, h1, _, _, h2, _⟩ := h.run_info w
 simp [sizeOf, h1, h2]
theorem TI.ok.run_zero {P : Program} {t : Nat} {i : TI} (h : TI.ok P t i) (w : World) : (zeroValue t).run P w = .ok i.zero w := by
 obtain ⟨inf, h1, _, h2, _⟩ := h.run_info w
 simp [zeroValue, h1, h2]
theorem TI.ok.und {P : Program} {t : Nat} {i : TI} (h : TI.ok P t i) : ∃ d, P.underlying t = some d ∧ kindOf d = i.k := by
 have := h.kind
 cases hu : P.underlying t with
 | none => simp [hu] at this
 | some d => simp [hu] at this; exact ⟨d, rfl, this⟩
theorem QbS {d : TypeDesc} {k : IntKind} (h : kindOf d = .int k) : d = .int k := by cases d <;> simp [kindOf] at h; rw [h]
theorem jM {d : TypeDesc} (h : kindOf d = .bool) : d = .bool := by cases d <;> simp [kindOf] at h; rfl
theorem yC {d : TypeDesc} (h : kindOf d = .str) : d = .string := by cases d <;> simp [kindOf] at h; rfl
theorem QT {d : TypeDesc} {e : Nat} (h : kindOf d = .slice e) : d = .slice e := by cases d <;> simp [kindOf] at h; rw [h]
theorem Ym {d : TypeDesc} {fs : List (Nat × Nat)} (h : kindOf d = .struct fs) : ∃ g : Array Field, d = .struct g ∧ g.toList.map (fun f => (f.type, f.offset)) = fs := by
 cases d <;> simp [kindOf] at h
 exact ⟨_, rfl, h⟩
theorem Qp {P : Program} {t : Nat} {d : TypeDesc} (h : P.underlying t = some d) (w : World) : (underlying t).run P w = .ok d w := by
 simp [underlying, h]
@[irreducible] def dec (p : Prop) [Decidable p] : Bool := decide p
theorem JE (p : Prop) [Decidable p] : dec p = decide p := by unfold dec; rfl
theorem QeG {p : Prop} [Decidable p] (h : dec p = true) : p := by rw [JE] at h; exact of_decide_eq_true h
theorem yb {p : Prop} [Decidable p] (h : dec p = false) : ¬ p := by rw [JE] at h; exact of_decide_eq_false h
theorem yj {p : Prop} [Decidable p] (h : p) : dec p = true := by rw [JE]; exact decide_eq_true h
theorem yX {p : Prop} [Decidable p] (h : ¬ p) : dec p = false := by rw [JE]; exact decide_eq_false h
def intOp (op : BinOp) (k : IntKind) (a b : Int) : Option Value :=
 match op with
 | .add => some (.int k (k.wrap (a + b)))
 | .sub => some (.int k (k.wrap (a - b)))
 | .mul => some (.int k (k.wrap (a * b)))
 | .eql => some (.bool (dec (a = b)))
 | .neq => some (.bool (dec (a ≠ b)))
 | .lss => some (.bool (dec (a < b)))
 | .leq => some (.bool (dec (a ≤ b)))
 | .gtr => some (.bool (dec (a > b)))
 | .geq => some (.bool (dec (a ≥ b)))
 | .quo => bif b == 0 then none else some (.int k (k.wrap (a.tdiv b)))
 | .rem => bif b == 0 then none else some (.int k (a.tmod b))
 | _ => none
def bitOp (op : BinOp) (k : IntKind) (a b : Int) : Option Value :=
 match op with
 | .and => some (.int k (k.wrap (BitVec.ofInt k.bits a &&& BitVec.ofInt k.bits b).toNat))
 | .or => some (.int k (k.wrap (BitVec.ofInt k.bits a ||| BitVec.ofInt k.bits b).toNat))
 | .xor => some (.int k (k.wrap (BitVec.ofInt k.bits a ^^^ BitVec.ofInt k.bits b).toNat))
 | _ => none
def shOp (op : BinOp) (k : IntKind) (a b : Int) : Option Value :=
 match op with
 | .shl => bif decide (b < 0) then none else some (.int k (k.wrap (a * 2 ^ (min b.toNat k.bits))))
 | .shr => bif decide (b < 0) then none else some (.int k (a.fdiv (2 ^ (min b.toNat k.bits))))
 | _ => none
def isSh : BinOp → Bool
 | .shl | .shr => true
 | _ => false
def kEq : IntKind → IntKind → Bool
 | .i8, .i8 | .i16, .i16 | .i32, .i32 | .i64, .i64 | .u8, .u8 | .u16, .u16 | .u32, .u32 | .u64, .u64 => true
 | _, _ => false
theorem Qbx {a b : IntKind} (h : kEq a b = true) : a = b := by cases a <;> cases b <;> simp [kEq] at h <;> rfl
def nth {α : Type} : List α → Nat → Option α
 | [], _ => none
 | x :: _, 0 => some x
 | _ :: r, n + 1 => nth r n
theorem Jg {α : Type} : ∀ (l : List α) (n : Nat), nth l n = l[n]?
 | [], n => by simp [nth]
 | x :: r, 0 => by simp [nth]
 | x :: r, n + 1 => by simp [nth, Jg r n]
def places (T : TT) : List (Nat × Nat) → Option (List (Nat × Nat))
 | [] => some []
 | (ft, off) :: r => match lkT T ft with
  | some i => match places T r with
   | some ps => some ((off, i.size) :: ps)
   | none => none
  | none => none
def evP (E : Env) : List (Nat × Operand) → Option (List (Nat × Value))
 | [] => some []
 | (i, x) :: r => match ev E x with
  | some v => match evP E r with
   | some vs => some ((i, v) :: vs)
   | none => none
  | none => none
def setSeg (cs : List Value) (off : Nat) (vs : List Value) : List Value := cs.take off ++ vs ++ cs.drop (off + vs.length)
def fillL (ps : List (Nat × Nat)) (cs : List Value) : List (Nat × Value) → Option (List Value)
 | [] => some cs
 | (i, v) :: r => match nth ps i with
  | some (off, size) => bif Nat.beq v.cells.toList.length size && Nat.ble (off + v.cells.toList.length) cs.length then fillL ps (setSeg cs off v.cells.toList) r else none
  | none => none
def pureOp (T : TT) (E : Env) : Op → Option Value
 | .move x | .assign x => ev E x
 | .pick c a b => match ev E c with
  | some (.bool true) => ev E a
  | some (.bool false) => ev E b
  | _ => none
 | .binOp op ty x y _ => match ev E x, ev E y with
  | some (.int k a), some (.int k' b) => bif isSh op then none else bif kEq k k' then intOp op k a b else none
  | some (.bool a), some (.bool b) => match op, lkT T ty with
   | .eql, some ⟨.bool, _, _, _⟩ => some (.bool (a == b))
   | .neq, some ⟨.bool, _, _, _⟩ => some (.bool (!(a == b)))
   | _, _ => none
  | some (.slice p _ _), some (.slice none _ _) => match op, lkT T ty with
   | .eql, some ⟨.slice _, _, _, _⟩ => some (.bool p.isNone)
   | .neq, some ⟨.slice _, _, _, _⟩ => some (.bool (!p.isNone))
   | _, _ => none
  | _, _ => none
 | .unOp op _ x => match op, ev E x with
  | .neg, some (.int k n) => some (.int k (k.wrap (0 - n)))
  | .not, some (.bool b) => some (.bool (!b))
  | _, _ => none
 | .extract x i => match ev E x with
  | some (.tuple vs) => nth vs.toList i
  | _ => none
 | .nilCheck x => match ev E x with
  | some (.pointer (some a)) => some (.pointer (some a))
  | _ => none
 | .fieldAddr s x f => match ev E x, lkT T s with
  | some (.pointer (some a)), some ⟨.struct fs, _, _, _⟩ => match fs[f]? with
   | some (ft, off) => match lkT T ft with
    | some ⟨_, _ + 1, _, _⟩ => some (.pointer (some (a.add off)))
    | _ => none
   | none => none
  | _, _ => none
 | .convert s d x => match ev E x, lkT T s, lkT T d with
  | some (.int _ n), some _, some ⟨.int k, _, _, _⟩ => some (.int k (k.wrap n))
  | _, _, _ => none
 | .call c => match c.callee, c.args.toList, c.argTypes.toList with
  | .builtin .len, [x], [t] => match ev E x, lkT T t with
   | some (.slice _ n _), some ⟨.slice _, _, _, _⟩ => some (.int .i64 (n : Int))
   | some (.string s), some ⟨.str, _, _, _⟩ => some (.int .i64 (s.size : Int))
   | _, _ => none
  | .builtin .min, [x, y], _ => match ev E x, ev E y with
   | some (.int k a), some (.int k' b) => bif kEq k k' then some (.int k (if b < a then b else a)) else none
   | _, _ => none
  | .builtin .max, [x, y], _ => match ev E x, ev E y with
   | some (.int k a), some (.int k' b) => bif kEq k k' then some (.int k (if b > a then b else a)) else none
   | _, _ => none
  | _, _, _ => none
 | .build t parts => match lkT T t with
  | some ⟨.struct fs, _, _, z⟩ => match places T fs, evP E parts.toList with
   | some ps, some vs => match fillL ps z.cells.toList vs with
    | some cs => some (.agg cs.toArray)
    | none => none
   | _, _ => none
  | _ => none
 | _ => none
theorem Qgh (a b : Int) : (a == b) = decide (a = b) := rfl
theorem Qga (a b : Int) : (a != b) = decide (a ≠ b) := by
 by_cases h : a = b
 ·simp [h]
 ·simp [h]
theorem Vd {P : Program} {w : World} {op : BinOp} {t : TypeId} {k : IntKind} {a b : Int} {v : Value} (h : intOp op k a b = some v) (hs : isSh op = false) : (binOp op t (.int k a) (.int k b)).run P w = .ok v w := by
 cases op <;> simp only [intOp, isSh, Option.some.injEq, reduceCtorEq] at h hs <;> try subst h
 all_goals simp only [binOp, ne_eq, not_true_eq_false, if_false]
 all_goals try (simp only [Op.intArith, Op.intCmp, JE, Qgh, Qga]; rfl)
 all_goals
  by_cases hb : b = 0
  ·subst hb; simp at h
  ·have hb' : (b == 0) = false := by simpa using hb
   simp only [hb', cond_false, Option.some.injEq] at h
   subst h
   simp [Op.intDiv, hb]
theorem Qdd {P : Program} {w : World} {op : BinOp} {t : TypeId} {k : IntKind} {a b : Int} {v : Value} (h : bitOp op k a b = some v) : (binOp op t (.int k a) (.int k b)).run P w = .ok v w := by
 cases op <;> simp only [bitOp, Option.some.injEq, reduceCtorEq] at h <;> subst h <;> simp [binOp, Op.intBits]
theorem Ya {P : Program} {w w' : World} {s : Sem Value} {v : Value} (h : s.run P w = .ok v w') : (do let x ← s; pure (Next.value x) : Sem Next).run P w = .ok (.value v) w' := by
 simp [h]
theorem YY {P : Program} {w : World} {op : BinOp} {t : TypeId} {x y : Operand} {k k' : IntKind} {a b : Int} : (eqGuard op t x y (.int k a) (.int k' b)).run P w = .ok () w := by
 cases op <;> simp [eqGuard]
theorem Qai {P : Program} {w : World} {op : BinOp} {t : TypeId} {x y : Operand} {a b : Bool} : (eqGuard op t x y (.bool a) (.bool b)).run P w = .ok () w := by
 cases op <;> simp [eqGuard]
theorem Qeq {a : Act} {N : Nat} {E : Env} (h : Has a N E) : ∀ {l : List (Nat × Operand)} {vs : List (Nat × Value)}, evP E l = some vs → l.map (fun p => (p.1, a.eval p.2)) = vs
 | [], vs, hx => by simp [evP] at hx; simp [hx]
 | (i, x) :: r, vs, hx => by
  simp only [evP] at hx
  split at hx
  ·rename_i v hv
   split at hx
   ·rename_i us hus
    simp only [Option.some.injEq] at hx
    subst hx
    simp [h.eval hv, Qeq h hus]
   ·cases hx
  ·cases hx
theorem jo : ∀ (vs : List Value) (cs : Array Value) (off k : Nat), off + k + vs.length ≤ cs.size →
  ((vs.zipIdx k).foldl (fun (cs : Array Value) (p : Value × Nat) => cs.setIfInBounds (off + p.2) p.1) cs).toList = setSeg cs.toList (off + k) vs
 | [], cs, off, k, h => by simp [setSeg]
 | v :: vs, cs, off, k, h => by
  simp only [List.length_cons] at h
  rw [List.zipIdx_cons, List.foldl_cons, jo vs _ off (k + 1) (by simp; omega)]
  have h1 : off + k < cs.toList.length := by simp; omega
  have e2 : (cs.toList.take (off + k)).length = off + k := by rw [List.length_take]; omega
  have t1 : ∀ (A R : List Value), (A ++ v :: R).take (A.length + 1) = A ++ [v] := fun A R => by
   rw [List.take_append, List.take_of_length_le (by omega)]; simp
  have t2 : ∀ (A R : List Value) (m : Nat), (A ++ v :: R).drop (A.length + 1 + m) = R.drop m := fun A R m => by
   rw [List.drop_append, List.drop_eq_nil_of_le (by omega)]
   have : A.length + 1 + m - A.length = m + 1 := by omega
   rw [this]; rfl
  have h2 : (cs.setIfInBounds (off + k) v).toList = cs.toList.take (off + k) ++ v :: cs.toList.drop (off + k + 1) := by
   rw [Array.toList_setIfInBounds, List.set_eq_take_append_cons_drop, if_pos h1]
  have u1 := t1 (cs.toList.take (off + k)) (cs.toList.drop (off + k + 1))
  have u2 := t2 (cs.toList.take (off + k)) (cs.toList.drop (off + k + 1)) vs.length
  rw [e2] at u1 u2
  simp only [setSeg, h2, ← Nat.add_assoc, u1, u2, List.length_cons, List.append_assoc, List.singleton_append, List.drop_drop]
  have : off + k + 1 + vs.length = off + k + vs.length + 1 := by omega
  rw [this]
theorem Qbp (ps : List (Nat × Nat)) : ∀ (vs : List (Nat × Value)) (cs : List Value) (r : List Value), fillL ps cs vs = some r → Instr.fill (fun i => ps[i]?) cs.toArray vs = some r.toArray
 | [], cs, r, h => by simp [fillL] at h; simp [Instr.fill, h]
 | (i, v) :: vs, cs, r, h => by
  simp only [fillL] at h
  split at h
  ·rename_i off size hp
   by_cases hc : (Nat.beq v.cells.toList.length size && Nat.ble (off + v.cells.toList.length) cs.length) = true
   ·rw [hc] at h
    simp only [cond_true] at h
    simp only [Bool.and_eq_true] at hc
    have h1 := Nat.eq_of_beq_eq_true hc.1
    have h2 := Nat.le_of_ble_eq_true hc.2
    have ih := Qbp ps vs _ r h
    rw [Jg] at hp
    have h3 : (v.cells.size ≠ size || off + v.cells.size > cs.toArray.size) = false := by
     simp at h1 h2 ⊢; omega
    simp only [Instr.fill, hp, h3, Bool.false_eq_true, if_false]
    rw [← ih]
    congr 1
    apply Array.ext'
    have := jo v.cells.toList cs.toArray off 0 (by simp at h2 ⊢; omega)
    simp only [Nat.add_zero] at this ⊢
    rw [← this]
    congr 1
    rw [← Array.foldl_toList, Array.toList_zipIdx]
   ·have : (Nat.beq v.cells.toList.length size && Nat.ble (off + v.cells.toList.length) cs.length) = false := Bool.eq_false_iff.2 hc
    rw [this] at h
    cases h
  ·cases h
theorem jZ {P : Program} {T : TT} (hS : Sym P T) (w : World) : ∀ (g : List Field) (ps : List (Nat × Nat)), places T (g.map fun f => (f.type, f.offset)) = some ps →
  (g.mapM fun f => (do pure (f.offset, ← sizeOf f.type) : Sem (Nat × Nat))).run P w = .ok ps w
 | [], ps, h => by simp [places] at h; simp [h]
 | f :: g, ps, h => by
  simp only [List.map_cons, places] at h
  split at h
  ·rename_i i hi
   split at h
   ·rename_i ps' hps
    simp only [Option.some.injEq] at h
    subst h
    have h1 := (hS.at hi).run_size w
    have h2 := jZ hS w g ps' hps
    simp only [List.mapM_cons, Sem.run_bind, h1, Result.andThen_ok, Sem.run_pure, h2]
   ·cases h
  ·cases h
theorem yR {P : Program} {w : World} {t e : TypeId} {p : Option Addr} {n c n' c' : Nat} (hd : P.underlying t = some (.slice e)) : (binOp .eql t (.slice p n c) (.slice none n' c')).run P w = .ok (.bool p.isNone) w := by
 have : ∀ d, (Op.equalIn (d + 1) t (.slice p n c) (.slice none n' c')).run P w = .ok p.isNone w := by
  intro d
  cases p <;> simp [Op.equalIn, Qp hd]
 simp only [binOp, Op.equal, Op.maxDepth, Sem.run_bind, this 9999, Result.andThen_ok, Sem.run_pure]
theorem yQ {P : Program} {w : World} {t e : TypeId} {p : Option Addr} {n c n' c' : Nat} (hd : P.underlying t = some (.slice e)) : (binOp .neq t (.slice p n c) (.slice none n' c')).run P w = .ok (.bool (!p.isNone)) w := by
 have : ∀ d, (Op.equalIn (d + 1) t (.slice p n c) (.slice none n' c')).run P w = .ok p.isNone w := by
  intro d
  cases p <;> simp [Op.equalIn, Qp hd]
 simp only [binOp, Op.equal, Op.maxDepth, Sem.run_bind, this 9999, Result.andThen_ok, Sem.run_pure]
theorem yN {P : Program} {w : World} {op : BinOp} {t : TypeId} {x y : Operand} {p q : Option Addr} {n c n' c' : Nat} : (eqGuard op t x y (.slice p n c) (.slice q n' c')).run P w = .ok () w := by
 cases op <;> simp [eqGuard]
theorem qI {P : Program} {w : World} {t : TypeId} {a b : Bool} (hd : P.underlying t = some .bool) (d : Nat) : (Op.equalIn (d + 1) t (.bool a) (.bool b)).run P w = .ok (a == b) w := by
 simp [Op.equalIn, Qp hd]
theorem Qfc {P : Program} {w : World} {t : TypeId} {a b : Bool} (hd : P.underlying t = some .bool) : (binOp .eql t (.bool a) (.bool b)).run P w = .ok (.bool (a == b)) w := by
 simp only [binOp, Op.equal, Op.maxDepth, Sem.run_bind, qI hd 9999, Result.andThen_ok, Sem.run_pure]
theorem QeK {P : Program} {w : World} {t : TypeId} {a b : Bool} (hd : P.underlying t = some .bool) : (binOp .neq t (.bool a) (.bool b)).run P w = .ok (.bool (!(a == b))) w := by
 simp only [binOp, Op.equal, Op.maxDepth, Sem.run_bind, qI hd 9999, Result.andThen_ok, Sem.run_pure]
theorem QbA {P : Program} {T : TT} {E : Env} {o : Oper} {v : Value} (hS : Sym P T) (h : pureOp T E o.op = some v) {a : Act} {N : Nat} (ha : Has a N E) (w : World) :
  (execOp a.eval o).run P w = .ok (.value v) w := by
 unfold execOp
 generalize o.op = opn at h
 unfold pureOp at h
 split at h
 ·simp [ha.eval h]
 ·simp [ha.eval h]
 ·split at h
  ·rename_i hc; simp [ha.eval hc, ha.eval h, asBool]
  ·rename_i hc; simp [ha.eval hc, ha.eval h, asBool]
  ·cases h
 ·split at h
  ·rename_i op _ _ _ _ _ _ k a' k' b hx hy
   refine Ya ?_
   simp only [ha.eval hx, ha.eval hy, Sem.run_bind, YY, Result.andThen_ok]
   cases hs : isSh op
   ·rw [hs] at h
    simp only [cond_false] at h
    cases hk : kEq k k'
    ·rw [hk] at h; cases h
    ·rw [hk] at h
     have := Qbx hk
     subst this
     exact Vd h hs
   ·rw [hs] at h
    simp only [cond_true] at h
    cases h
  ·rename_i a' b hx hy
   refine Ya ?_
   simp only [ha.eval hx, ha.eval hy, Sem.run_bind, Qai, Result.andThen_ok]
   split at h
   ·rename_i hT
    obtain ⟨d, hd, hk⟩ := (hS.at hT).und
    have := jM hk
    subst this
    simp only [Option.some.injEq] at h
    subst h
    exact Qfc hd
   ·rename_i hT
    obtain ⟨d, hd, hk⟩ := (hS.at hT).und
    have := jM hk
    subst this
    simp only [Option.some.injEq] at h
    subst h
    exact QeK hd
   ·cases h
  ·rename_i p _ _ _ _ hx hy
   refine Ya ?_
   simp only [ha.eval hx, ha.eval hy, Sem.run_bind, yN, Result.andThen_ok]
   split at h
   ·rename_i hT
    obtain ⟨d, hd, hk⟩ := (hS.at hT).und
    have := QT hk
    subst this
    simp only [Option.some.injEq] at h
    subst h
    exact yR hd
   ·rename_i hT
    obtain ⟨d, hd, hk⟩ := (hS.at hT).und
    have := QT hk
    subst this
    simp only [Option.some.injEq] at h
    subst h
    exact yQ hd
   ·cases h
  ·cases h
 ·split at h
  ·rename_i hx
   simp only [Option.some.injEq] at h
   subst h
   simp [ha.eval hx, Op.unary, Op.intArith]
  ·rename_i hx
   simp only [Option.some.injEq] at h
   subst h
   simp [ha.eval hx, Op.unary]
  ·cases h
 ·split at h
  ·rename_i hx
   rw [Jg] at h
   simp only [Array.getElem?_toList] at h
   simp [ha.eval hx, Instr.extract, h]
  ·cases h
 ·split at h
  ·rename_i hx
   simp only [Option.some.injEq] at h
   subst h
   simp [ha.eval hx]
  ·cases h
 ·split at h
  ·rename_i s x f _ _ ad fs _ _ _ hx hT
   split at h
   ·rename_i ft off hf
    split at h
    ·rename_i hft
     obtain ⟨d, hd, hk⟩ := (hS.at hT).und
     obtain ⟨g, rfl, hg⟩ := Ym hk
     simp only [Option.some.injEq] at h
     subst h
     rw [← hg] at hf
     simp only [List.getElem?_map, Array.getElem?_toList, Option.map_eq_some_iff] at hf
     obtain ⟨fd, hfd, hfe⟩ := hf
     simp only [Prod.mk.injEq] at hfe
     obtain ⟨rfl, rfl⟩ := hfe
     have hsz := (hS.at hft).run_size w
     simp [ha.eval hx, Instr.fieldAt, Qp hd, hfd, Instr.sureAddr, fieldPlace, hsz]
    ·cases h
   ·cases h
  ·cases h
 ·split at h
  ·rename_i hx hs hT
   obtain ⟨d, hd, hk⟩ := (hS.at hT).und
   obtain ⟨d', hd', hk'⟩ := (hS.at hs).und
   have := QbS hk
   subst this
   simp only [Option.some.injEq] at h
   subst h
   simp [ha.eval hx, convert, Qp hd, Qp hd', Conv.intToInt]
  ·cases h
 ·split at h
  ·rename_i c _ _ _ x t hcal hargs htys
   have e1 : c.args = #[x] := by rw [← Array.toArray_toList (xs := c.args), hargs]
   have e2 : c.argTypes = #[t] := by rw [← Array.toArray_toList (xs := c.argTypes), htys]
   split at h
   ·rename_i hx hT
    obtain ⟨d, hd, hk⟩ := (hS.at hT).und
    have := QT hk
    subst this
    simp only [Option.some.injEq] at h
    subst h
    simp [ha.eval hx, resolve, hcal, e1, e2, invoke, builtin, Builtin.len_, Qp hd, goInt]
   ·rename_i hx hT
    obtain ⟨d, hd, hk⟩ := (hS.at hT).und
    have := yC hk
    subst this
    simp only [Option.some.injEq] at h
    subst h
    simp [ha.eval hx, resolve, hcal, e1, e2, invoke, builtin, Builtin.len_, Qp hd, goInt]
   ·cases h
  ·rename_i c _ _ _ x y hcal hargs
   have e1 : c.args = #[x, y] := by rw [← Array.toArray_toList (xs := c.args), hargs]
   split at h
   ·rename_i k a' k' b' hx hy
    cases hk : kEq k k'
    ·rw [hk] at h; cases h
    ·rw [hk] at h
     have := Qbx hk
     subst this
     simp only [cond_true, Option.some.injEq] at h
     subst h
     simp [ha.eval hx, ha.eval hy, resolve, hcal, e1, invoke, builtin, Builtin.min_, Builtin.min2]
   ·cases h
  ·rename_i c _ _ _ x y hcal hargs
   have e1 : c.args = #[x, y] := by rw [← Array.toArray_toList (xs := c.args), hargs]
   split at h
   ·rename_i k a' k' b' hx hy
    cases hk : kEq k k'
    ·rw [hk] at h; cases h
    ·rw [hk] at h
     have := Qbx hk
     subst this
     simp only [cond_true, Option.some.injEq] at h
     subst h
     simp [ha.eval hx, ha.eval hy, resolve, hcal, e1, invoke, builtin, Builtin.max_, Builtin.max2]
   ·cases h
  ·cases h
 ·rename_i t parts
  split at h
  ·rename_i fs _ _ z hT
   split at h
   ·rename_i ps vs hps hvs
    split at h
    ·rename_i cs hcs
     simp only [Option.some.injEq] at h
     subst h
     obtain ⟨d, hd, hk⟩ := (hS.at hT).und
     obtain ⟨g, rfl, hg⟩ := Ym hk
     have hg' : g.toList.map (fun f => (f.type, f.offset)) = fs := hg
     rw [← hg'] at hps
     have h1 := jZ hS w g.toList ps hps
     have h2 := Qbp ps vs _ cs hcs
     have h3 := Qeq ha hvs
     have hz := (hS.at hT).run_zero w
     have h4 : (g.mapM fun f => (do pure (f.offset, ← sizeOf f.type) : Sem (Nat × Nat))).run P w = .ok ps.toArray w := by
      rw [← Array.toArray_toList (xs := g), List.mapM_toArray]
      simp only [Sem.run_map, h1, Result.andThen_ok]
     have h5 : (parts.map fun (p : Nat × Operand) => (p.1, a.eval p.2)).toList = vs := by rw [Array.toList_map]; exact h3
     refine Ya ?_
     have h6 : (fun i : Nat => ps.toArray[i]?) = fun i : Nat => ps[i]? := by funext i; simp
     simp only [Instr.build, Sem.run_bind, hz, Result.andThen_ok, Qp hd, h4, h5, h6]
     have h7 : z.cells = z.cells.toList.toArray := by simp
     rw [h7, h2]
     rfl
    ·cases h
   ·cases h
  ·cases h
 ·cases h
end Go.Hp

/- The rules with which the functions are walked, second part: memory, calls, control. Program in general; no condition. -/
namespace Go.Hp
inductive Blk where
 | var (v : Value)
 | arr (l : List Value)
def Blk.cells : Blk → Array Value
 | .var v => v.cells
 | .arr l => (l.flatMap fun v => v.cells.toList).toArray
abbrev MH := List (Nat × Blk × Nat)
def ULe (U U' : UH) : Prop := ∀ k o, U k = some o → U' k = some o
theorem ULe.refl (U : UH) : ULe U U := fun _ _ h => h
theorem ULe.trans {a b c : UH} (h : ULe a b) (k : ULe b c) : ULe a c := fun i o ho => k i o (h i o ho)
def UH.cell? (U : UH) (a : Addr) : Option Value :=
 match U a.block with
 | some (.cells c _ _) => if a.spot.isSome then none else c[a.off]?
 | _ => none
theorem ULe.cell {U U' : UH} (h : ULe U U') {a : Addr} {v : Value} (hv : U.cell? a = some v) : U'.cell? a = some v := by
 unfold UH.cell? at *
 cases hb : U a.block with
 | none => simp [hb] at hv
 | some o => rw [h _ _ hb]; rw [hb] at hv; exact hv
structure Mem (G : World) (U : UH) (M : MH) (w : World) : Prop where
 os : w.os = G.os
 tape : w.tape = G.tape
 output : w.output = G.output
 old : ∀ k o, U k = some o → w.heap[k]? = some o
 own : ∀ e ∈ M, w.heap[e.1]? = some (.cells e.2.1.cells e.2.2 (0, 0)) ∧ U e.1 = none
 nd : M.Pairwise (fun a b => a.1 ≠ b.1)
theorem Mem.anti {G : World} {U U' : UH} {M M' : MH} {w : World} (h : Mem G U' M' w) (hU : ULe U U') (hM : M.Sublist M') : Mem G U M w := by
 refine ⟨h.os, h.tape, h.output, fun k o ho => h.old k o (hU k o ho), fun e he => ?_, h.nd.sublist hM⟩
 obtain ⟨h1, h2⟩ := h.own e (hM.subset he)
 refine ⟨h1, ?_⟩
 cases hu : U e.1 with
 | none => rfl
 | some o => rw [hU _ _ hu] at h2; cases h2
theorem Mem.perm {G : World} {U : UH} {M M' : MH} {w : World} (h : Mem G U M w) (hp : M.Perm M') : Mem G U M' w :=
 ⟨h.os, h.tape, h.output, h.old, fun e he => h.own e (hp.mem_iff.2 he), (hp.pairwise_iff (fun h => Ne.symm h)).1 h.nd⟩
theorem Mem.drawn {G : World} {U : UH} {M : MH} {w : World} (h : Mem G U M w) (n : Nat) : Mem G U M { w with drawn := n } :=
 ⟨h.os, h.tape, h.output, h.old, h.own, h.nd⟩
theorem Mem.cellU {G : World} {U : UH} {M : MH} {w : World} (h : Mem G U M w) {a : Addr} {v : Value} (hv : U.cell? a = some v) : w.cell? a = some v := by
 unfold UH.cell? at hv
 unfold World.cell?
 cases hb : U a.block with
 | none => simp [hb] at hv
 | some o => rw [h.old _ _ hb]; rw [hb] at hv; exact hv
theorem Mem.own_at {G : World} {U : UH} {M : MH} {w : World} (h : Mem G U M w) {i b t : Nat} {k : Blk} (hi : M[i]? = some (b, k, t)) : w.heap[b]? = some (.cells k.cells t (0, 0)) :=
 (h.own _ (List.mem_of_getElem? hi)).1
theorem Mem.cellM {G : World} {U : UH} {M : MH} {w : World} (h : Mem G U M w) {i b t : Nat} {k : Blk} (hi : M[i]? = some (b, k, t)) (o : Nat) : w.cell? ⟨b, o, none⟩ = k.cells[o]? := by
 simp [World.cell?, h.own_at hi]
theorem Mem.alloc {G : World} {U : UH} {M : MH} {w : World} (h : Mem G U M w) (k : Blk) (t : Nat) : Mem G U ((w.heap.size, k, t) :: M) (w.alloc (.cells k.cells t)) := by
 have hlt : ∀ j o, w.heap[j]? = some o → j < w.heap.size := fun j o hj => (Array.getElem?_eq_some_iff.1 hj).1
 refine ⟨h.os, h.tape, h.output, fun j o ho => ?_, fun e he => ?_, ?_⟩
 ·have := h.old j o ho
  rw [heap_alloc_old _ _ (hlt _ _ this)]; exact this
 ·rcases List.mem_cons.1 he with rfl | he
  ·refine ⟨heap_alloc_new w _, ?_⟩
   cases hu : U w.heap.size with
   | none => rfl
   | some o => have := hlt _ _ (h.old _ _ hu); omega
  ·obtain ⟨h1, h2⟩ := h.own e he
   refine ⟨?_, h2⟩
   rw [heap_alloc_old _ _ (hlt _ _ h1)]; exact h1
 ·refine List.pairwise_cons.2 ⟨fun e he => ?_, h.nd⟩
  have := hlt _ _ (h.own e he).1
  omega
def UH.upd (U : UH) (b : Nat) (o : Obj) : UH := fun k => if k = b then some o else U k
theorem ULe.upd {U : UH} {b : Nat} {o : Obj} (h : U b = none) : ULe U (U.upd b o) := by
 intro k o' hk
 unfold UH.upd
 by_cases e : k = b
 ·subst e; rw [h] at hk; cases hk
 ·rw [if_neg e]; exact hk
theorem Mem.settle {G : World} {U : UH} {M : MH} {w : World} {b t : Nat} {k : Blk} (h : Mem G U ((b, k, t) :: M) w) : ULe U (U.upd b (.cells k.cells t (0, 0))) ∧ Mem G (U.upd b (.cells k.cells t (0, 0))) M w := by
 obtain ⟨h1, h2⟩ := h.own _ (List.mem_cons_self ..)
 refine ⟨ULe.upd h2, h.os, h.tape, h.output, fun j o ho => ?_, fun e he => ?_, (List.pairwise_cons.1 h.nd).2⟩
 ·unfold UH.upd at ho
  by_cases ej : j = b
  ·subst ej; simp at ho; rw [← ho]; exact h1
  ·rw [if_neg ej] at ho; exact h.old j o ho
 ·obtain ⟨h3, h4⟩ := h.own e (List.mem_cons_of_mem _ he)
  refine ⟨h3, ?_⟩
  have : b ≠ e.1 := (List.pairwise_cons.1 h.nd).1 e he
  unfold UH.upd
  rw [if_neg (Ne.symm this)]; exact h4
theorem UH.cell_upd (U : UH) (b : Nat) (c : Array Value) (t : Nat) (o : Nat) : (U.upd b (.cells c t (0, 0))).cell? ⟨b, o, none⟩ = c[o]? := by
 simp [UH.cell?, UH.upd]
theorem Mem.setBlk {G : World} {U : UH} {M : MH} {w w' : World} (h : Mem G U M w) {i b t : Nat} {k : Blk} (hi : M[i]? = some (b, k, t)) (k' : Blk)
  (ho : w'.os = w.os) (ht : w'.tape = w.tape) (hout : w'.output = w.output) (hb : w'.heap[b]? = some (.cells k'.cells t (0, 0))) (hr : ∀ j, j ≠ b → w'.heap[j]? = w.heap[j]?) :
  Mem G U (M.set i (b, k', t)) w' := by
 have hmem := List.mem_of_getElem? hi
 have hUb := (h.own _ hmem).2
 refine ⟨ho.trans h.os, ht.trans h.tape, hout.trans h.output, fun j o hj => ?_, fun e he => ?_, ?_⟩
 ·have : j ≠ b := fun e => by subst e; rw [hUb] at hj; cases hj
  rw [hr j this]; exact h.old j o hj
 ·rcases List.mem_iff_getElem?.1 he with ⟨m, hm⟩
  rw [List.getElem?_set] at hm
  by_cases e1 : i = m
  ·rw [if_pos e1] at hm
   split at hm
   ·simp only [Option.some.injEq] at hm; subst hm; exact ⟨hb, hUb⟩
   ·cases hm
  ·rw [if_neg e1] at hm
   have he' := List.mem_of_getElem? hm
   have hne : e.1 ≠ b := by
    intro hc
    have hp := List.pairwise_iff_getElem.1 h.nd
    obtain ⟨hil, hie⟩ := List.getElem?_eq_some_iff.1 hi
    obtain ⟨hml, hme⟩ := List.getElem?_eq_some_iff.1 hm
    rcases Nat.lt_or_ge i m with hlt | hge
    ·exact hp i m hil hml hlt (by rw [hie, hme]; exact hc.symm)
    ·exact hp m i hml hil (by omega) (by rw [hie, hme]; exact hc)
   rw [hr e.1 hne]; exact h.own e he'
 ·have h1 : (M.set i (b, k', t)).map Prod.fst = M.map Prod.fst := by
   refine List.ext_getElem? fun j => ?_
   simp only [List.getElem?_map, List.getElem?_set]
   by_cases e : i = j
   ·subst e
    obtain ⟨hl, he⟩ := List.getElem?_eq_some_iff.1 hi
    simp [hl, he]
   ·simp [e]
  have h2 := h.nd
  rw [← List.pairwise_map (f := Prod.fst) (R := fun a b => a ≠ b)] at h2 ⊢
  rw [h1]; exact h2
variable {P : Program} {T : TT} {K : Kont} {N : Nat} {G : World} {E : Env} {U : UH} {M : MH}
structure St (P : Program) (K : Kont) (N : Nat) (G : World) (c : Code) (E : Env) (U : UH) (M : MH) : Prop where
 run : ∀ a w, Has a N E → Mem G U M w → c.wp P K a w
structure SK (K : Kont) (N : Nat) (G : World) (e : Exit) (E : Env) (U : UH) (M : MH) : Prop where
 run : ∀ a w, Has a N E → Mem G U M w → K e a w
def kseq (P : Program) (y : Code) (K : Kont) : Kont := Exit.then (y.wp P K) K
def kblock (id : Nat) (K : Kont) : Kont := Exit.inBlock id K
def kloop (J : Act → World → Prop) (K : Kont) : Kont := Exit.then J K
theorem QF {x y : Code} (h : St P (kseq P y K) N G x E U M) : St P K N G (.seq x y) E U M := ⟨fun a w ha hw => wp_seq (h.run a w ha hw)⟩
theorem YA (h : SK K N G .normal E U M) : St P K N G .skip E U M := ⟨fun a w ha hw => wp_skip (h.run a w ha hw)⟩
theorem VX (h : SK K N G .ret E U M) : St P K N G .ret E U M := ⟨fun a w ha hw => wp_ret (h.run a w ha hw)⟩
theorem YN {id : Nat} (h : SK K N G (.exit id) E U M) : St P K N G (.exit id) E U M := ⟨fun a w ha hw => wp_exit (h.run a w ha hw)⟩
theorem JM {id : Nat} {c : Code} (h : St P (kblock id K) N G c E U M) : St P K N G (.block id c) E U M := ⟨fun a w ha hw => wp_block (h.run a w ha hw)⟩
theorem Qcs {c : Operand} {x y : Code} {b : Bool} (hc : ev E c = some (.bool b)) (ht : b = true → St P K N G x E U M) (hf : b = false → St P K N G y E U M) :
  St P K N G (.cond c x y) E U M :=
 ⟨fun a w ha hw => wp_cond_split (ha.eval hc) (fun e => (ht e).run a w ha hw) (fun e => (hf e).run a w ha hw)⟩
theorem YO {c : Operand} {x y : Code} (hc : ev E c = some (.bool true)) (h : St P K N G x E U M) : St P K N G (.cond c x y) E U M :=
 ⟨fun a w ha hw => wp_cond_true (ha.eval hc) (h.run a w ha hw)⟩
theorem Ys {c : Operand} {x y : Code} (hc : ev E c = some (.bool false)) (h : St P K N G y E U M) : St P K N G (.cond c x y) E U M :=
 ⟨fun a w ha hw => wp_cond_false (ha.eval hc) (h.run a w ha hw)⟩
theorem Qj {c : Operand} {x y : Code} {p : Prop} {_ : Decidable p} (hc : ev E c = some (.bool (dec p))) (ht : p → St P K N G x E U M) (hf : ¬ p → St P K N G y E U M) :
  St P K N G (.cond c x y) E U M :=
 Qcs hc (fun h => ht (QeG h)) (fun h => hf (yb h))
theorem JH {c : Operand} {x y : Code} {m n : Int} {_ : Decidable (m = n)} (hc : ev E c = some (.bool (dec (m = n)))) (ht : m = n → St P K N G x E U M) (hf : m ≠ n → St P K N G y E U M) :
  St P K N G (.cond c x y) E U M := Qj hc ht hf
theorem QZ {c : Operand} {x y : Code} {m n : Int} {_ : Decidable (m ≠ n)} (hc : ev E c = some (.bool (dec (m ≠ n)))) (ht : m ≠ n → St P K N G x E U M) (hf : m = n → St P K N G y E U M) :
  St P K N G (.cond c x y) E U M := Qj hc ht (fun h => hf (Decidable.of_not_not h))
theorem QA {c : Code} {U' : UH} {M' : MH} (hU : ULe U' U) (hM : M'.Sublist M) (h : St P K N G c E U' M') : St P K N G c E U M := ⟨fun a w ha hw => h.run a w ha (hw.anti hU hM)⟩
theorem Yz {e : Exit} {U' : UH} {M' : MH} (hU : ULe U' U) (hM : M'.Sublist M) (h : SK K N G e E U' M') : SK K N G e E U M := ⟨fun a w ha hw => h.run a w ha (hw.anti hU hM)⟩
theorem Vu {y : Code} (h : St P K N G y E U M) : SK (kseq P y K) N G .normal E U M := ⟨h.run⟩
theorem JG {y : Code} (h : SK K N G .ret E U M) : SK (kseq P y K) N G .ret E U M := ⟨h.run⟩
theorem Jz {y : Code} {id : Nat} (h : SK K N G (.exit id) E U M) : SK (kseq P y K) N G (.exit id) E U M := ⟨h.run⟩
theorem Yq {id : Nat} (h : SK K N G .normal E U M) : SK (kblock id K) N G .normal E U M := ⟨h.run⟩
theorem Jn {id : Nat} (h : SK K N G .ret E U M) : SK (kblock id K) N G .ret E U M := ⟨h.run⟩
theorem Jc {id : Nat} (h : SK K N G .normal E U M) : SK (kblock id K) N G (.exit id) E U M := ⟨fun a w ha hw => by
 show (if id = id then _ else _); rw [if_pos rfl]; exact h.run a w ha hw⟩
theorem Jk {id id' : Nat} (hne : Nat.beq id' id = false) (h : SK K N G (.exit id') E U M) : SK (kblock id K) N G (.exit id') E U M := ⟨fun a w ha hw => by
 show (if id' = id then _ else _)
 rw [if_neg (fun e => by subst e; simp at hne)]; exact h.run a w ha hw⟩
theorem Jx {J : Act → World → Prop} (h : SK K N G .ret E U M) : SK (kloop J K) N G .ret E U M := ⟨h.run⟩
theorem Jj {J : Act → World → Prop} {id : Nat} (h : SK K N G (.exit id) E U M) : SK (kloop J K) N G (.exit id) E U M := ⟨h.run⟩
def kcut (N : Nat) (G : World) (Φ : Env → UH → MH → Prop) (K : Kont) : Kont := Exit.then (fun a w => ∃ E U M, Φ E U M ∧ Has a N E ∧ Mem G U M w) K
theorem Qr (Φ : Env → UH → MH → Prop) {x y : Code} (h1 : St P (kcut N G Φ K) N G x E U M) (h2 : ∀ E U M, Φ E U M → St P K N G y E U M) : St P K N G (.seq x y) E U M := by
 refine ⟨fun a w ha hw => wp_seq (wp_mono (h1.run a w ha hw) ?_)⟩
 intro e a w hq
 cases e <;> try exact hq
 obtain ⟨E, U, M, hp, ha, hw⟩ := hq
 exact (h2 E U M hp).run a w ha hw
theorem Qq {Φ : Env → UH → MH → Prop} {E' : Env} (hs : Sub E' E) (h : Φ E' U M) : SK (kcut N G Φ K) N G .normal E U M :=
 ⟨fun _ _ ha hw => ⟨E', U, M, h, ha.sub hs, hw⟩⟩
theorem JJ {Φ : Env → UH → MH → Prop} (h : SK K N G .ret E U M) : SK (kcut N G Φ K) N G .ret E U M := ⟨h.run⟩
theorem Jy {Φ : Env → UH → MH → Prop} {id : Nat} (h : SK K N G (.exit id) E U M) : SK (kcut N G Φ K) N G (.exit id) E U M := ⟨h.run⟩
def Again (Inv : Nat → Env → UH → MH → Prop) (N : Nat) (G : World) (n : Nat) : Act → World → Prop := fun a w =>
 ∃ m E U M, m < n ∧ Inv m E U M ∧ Has a N E ∧ Mem G U M w
theorem Ql (Inv : Nat → Env → UH → MH → Prop) {n0 : Nat} {E0 : Env} {c : Code} (hs : Sub E0 E) (h0 : Inv n0 E0 U M)
  (round : ∀ n E U M, Inv n E U M → St P (kloop (Again Inv N G n) K) N G c E U M) : St P K N G (.loop c) E U M := by
 refine ⟨fun a w ha hw => ?_⟩
 have key : ∀ n, ∀ E U M a w, Inv n E U M → Has a N E → Mem G U M w → (Code.loop c).wp P K a w := by
  intro n E U M a w hI ha hw
  refine wp_loop (fun a w => ∃ m E U M, Inv m E U M ∧ Has a N E ∧ Mem G U M w)
   (fun a w => Classical.epsilon fun m => (∃ E U M, Inv m E U M ∧ Has a N E ∧ Mem G U M w) ∧ ∀ k, (∃ E U M, Inv k E U M ∧ Has a N E ∧ Mem G U M w) → m ≤ k) ⟨n, E, U, M, hI, ha, hw⟩ ?_
  intro a w hI
  have hex : ∃ m, (∃ E U M, Inv m E U M ∧ Has a N E ∧ Mem G U M w) ∧ ∀ k, (∃ E U M, Inv k E U M ∧ Has a N E ∧ Mem G U M w) → m ≤ k := by
   obtain ⟨m, E, U, M, h⟩ := hI
   have : ∀ m, (∃ E U M, Inv m E U M ∧ Has a N E ∧ Mem G U M w) → ∃ m, (∃ E U M, Inv m E U M ∧ Has a N E ∧ Mem G U M w) ∧ ∀ k, (∃ E U M, Inv k E U M ∧ Has a N E ∧ Mem G U M w) → m ≤ k := by
    intro m
    induction m using Nat.strongRecOn with
    | _ m ih =>
     intro hm
     by_cases hk : ∃ k, k < m ∧ ∃ E U M, Inv k E U M ∧ Has a N E ∧ Mem G U M w
     ·obtain ⟨k, hlt, hk⟩ := hk; exact ih k hlt hk
     ·exact ⟨m, hm, fun k h => Nat.le_of_not_lt fun hlt => hk ⟨k, hlt, h⟩⟩
   exact this m ⟨E, U, M, h⟩
  have hsp := Classical.epsilon_spec hex
  generalize hm : (Classical.epsilon fun m => (∃ E U M, Inv m E U M ∧ Has a N E ∧ Mem G U M w) ∧ ∀ k, (∃ E U M, Inv k E U M ∧ Has a N E ∧ Mem G U M w) → m ≤ k) = m at hsp
  obtain ⟨⟨E, U, M, hI, ha, hw⟩, _⟩ := hsp
  refine wp_mono ((round m E U M hI).run a w ha hw) ?_
  intro e a' w' hq
  cases e <;> try exact hq
  obtain ⟨m', E', U', M', hlt, hI', ha', hw'⟩ := hq
  refine ⟨⟨m', E', U', M', hI', ha', hw'⟩, ?_⟩
  have hex' : ∃ m, (∃ E U M, Inv m E U M ∧ Has a' N E ∧ Mem G U M w') ∧ ∀ k, (∃ E U M, Inv k E U M ∧ Has a' N E ∧ Mem G U M w') → m ≤ k := by
   have : ∀ m, (∃ E U M, Inv m E U M ∧ Has a' N E ∧ Mem G U M w') → ∃ m, (∃ E U M, Inv m E U M ∧ Has a' N E ∧ Mem G U M w') ∧ ∀ k, (∃ E U M, Inv k E U M ∧ Has a' N E ∧ Mem G U M w') → m ≤ k := by
    intro m
    induction m using Nat.strongRecOn with
    | _ m ih =>
     intro hm
     by_cases hk : ∃ k, k < m ∧ ∃ E U M, Inv k E U M ∧ Has a' N E ∧ Mem G U M w'
     ·obtain ⟨k, hlt, hk⟩ := hk; exact ih k hlt hk
     ·exact ⟨m, hm, fun k h => Nat.le_of_not_lt fun hlt => hk ⟨k, hlt, h⟩⟩
   exact this m' ⟨E', U', M', hI', ha', hw'⟩
  have h3 := (Classical.epsilon_spec hex').2 m' ⟨E', U', M', hI', ha', hw'⟩
  exact Nat.lt_of_le_of_lt h3 hlt
 exact key n0 E0 U M a w h0 (ha.sub hs) hw
theorem Qi {Inv : Nat → Env → UH → MH → Prop} {n m : Nat} {E' : Env} (hs : Sub E' E) (hlt : m < n) (hI : Inv m E' U M) : SK (kloop (Again Inv N G n) K) N G .normal E U M :=
 ⟨fun _ _ ha hw => ⟨m, E', U, M, hlt, hI, ha.sub hs, hw⟩⟩
end Go.Hp

/- The rules with which the functions are walked: regions, in the text's order and in whatever order. Program in general; no condition. -/
namespace Go.Hp
variable {P : Program} {T : TT} {K : Kont} {N : Nat} {G : World} {E : Env} {U : UH} {M : MH}
def gok (L : List Oper) (E : Env) : Option (Nat × Bool) → Option Bool
 | none => some true
 | some (j, want) => match nth L j with
  | some o => match o.dst with
   | some d => match lk E d with
    | some (.bool b) => some (bif want then b else !b)
    | some (.tuple _) => some false
    | _ => none
   | none => none
  | none => none
theorem Je {L : List Oper} {o : Oper} {b : Bool} (h : gok L E o.guard = some b) {a : Act} (ha : Has a N E) : Region.wanted o (yielded L.toArray a.tmps) = b := by
 unfold gok at h
 unfold Region.wanted
 split at h
 ·rename_i hg; simp at h; simp [hg, h]
 ·rename_i j want hg
  simp only [hg]
  split at h
  ·rename_i o' ho'
   split at h
   ·rename_i d hd
    split at h
    ·rename_i b' hb'
     simp only [Option.some.injEq] at h
     rw [Jg] at ho'
     have := ha.get _ _ hb'
     simp only [yielded, List.getElem?_toArray, ho', Option.bind_some, hd, this]
     cases want <;> cases b' <;> simp at h ⊢ <;> exact h
    ·rename_i vs hb'
     simp only [Option.some.injEq] at h
     rw [Jg] at ho'
     have := ha.get _ _ hb'
     simp only [yielded, List.getElem?_toArray, ho', Option.bind_some, hd, this]
     simpa using h
    ·cases h
   ·cases h
  ·cases h
theorem VZ {L : List Oper} {E E' : Env} {g : Option (Nat × Bool)} {b : Bool} (h : gok L E g = some b) (hl : ∀ j want o d, g = some (j, want) → nth L j = some o → o.dst = some d → ∀ v, lk E d = some v → lk E' d = some v) : gok L E' g = some b := by
 unfold gok at *
 split at h
 ·exact h
 ·rename_i j want
  split at h
  ·rename_i o' ho'
   split at h
   ·rename_i d hd
    split at h
    ·rename_i b' hb'
     simp only [hl j want o' d rfl ho' hd _ hb']
     exact h
    ·rename_i vs hb'
     simp only [hl j want o' d rfl ho' hd _ hb']
     exact h
    ·cases h
   ·cases h
  ·cases h
def exV (P : Program) (r : Result Next) (R : Value → World → Prop) : Prop :=
 match r with
 | .ok (.value v) w' => R v w'
 | .ok .skip w' => R undef w'
 | .ok (.enter f args) w' => Calls P f args w' fun e w'' => ∃ v, e = .returned v ∧ R v w''
 | _ => False
def wpV (P : Program) (L : List Oper) (o : Oper) (a : Act) (w : World) (R : Value → World → Prop) : Prop :=
 if Region.wanted o (yielded L.toArray a.tmps) then exV P ((execOp a.eval o).run P w) R else R undef w
theorem Qev {r : Result Next} {R R' : Value → World → Prop} (h : exV P r R) (hr : ∀ v w, R v w → R' v w) : exV P r R' := by
 unfold exV at *
 split at h
 ·exact hr _ _ h
 ·exact hr _ _ h
 ·exact h.mono fun e w ⟨v, h1, h2⟩ => ⟨v, h1, hr _ _ h2⟩
 ·exact h.elim
theorem Vh {L : List Oper} {o : Oper} {a : Act} {w : World} {R R' : Value → World → Prop} (h : wpV P L o a w R) (hr : ∀ v w, R v w → R' v w) : wpV P L o a w R' := by
 unfold wpV at *
 split
 ·rename_i hw; rw [if_pos hw] at h; exact Qev h hr
 ·rename_i hw; rw [if_neg hw] at h; exact hr _ _ h
theorem qh {o : Oper} {a : Act} {w : World} {R : Value → World → Prop} {K' : Act → World → Prop} {Q : Exit → Act → World → Prop} (h : exV P ((execOp a.eval o).run P w) R) (hk : ∀ v w', R v w' → K' (a.put o.dst v) w') : o.wp P a w K' Q := by
 unfold Oper.wp
 unfold exV at h
 split at h
 ·rename_i hr; rw [hr]; exact hk _ _ h
 ·rename_i hr; rw [hr]; exact hk _ _ h
 ·rename_i hr
  rw [hr, Oper.upon_enter]
  refine h.mono ?_
  rintro e w'' ⟨v, rfl, h2⟩
  exact hk _ _ h2
 ·exact h.elim
theorem Vo {L : List Oper} {o : Oper} {a a' : Act} {w : World} {R : Value → World → Prop} (he : execOp a'.eval o = execOp a.eval o) (hw : Region.wanted o (yielded L.toArray a'.tmps) = Region.wanted o (yielded L.toArray a.tmps)) (h : wpV P L o a w R) : wpV P L o a' w R := by
 unfold wpV at *
 rw [he, hw]; exact h
structure Yg (P : Program) (L : List Oper) (N : Nat) (G : World) (o : Oper) (E : Env) (U : UH) (M : MH) (v : Value) : Prop where
 run : ∀ a w, Has a N E → Mem G U M w → (Region.wanted o (yielded L.toArray a.tmps) = true ∧ (execOp a.eval o).run P w = .ok (.value v) w) ∨ (Region.wanted o (yielded L.toArray a.tmps) = false ∧ v = undef)
inductive Kd where
 | Y | A | C | X
def kd (T : TT) : Op → Kd
 | .alloc _ => .A
 | .box .. | .buildSlice .. | .makeSlice .. => .C
 | .call c => match c.callee with
  | .builtin .len | .builtin .cap | .builtin .min | .builtin .max => .Y
  | .builtin .append => .C
  | .builtin _ => .X
  | _ => .C
 | .convert _ d _ => match lkT T d with
  | some ⟨.int _, _, _, _⟩ => .Y
  | _ => .C
 | .move _ | .assign _ | .pick .. | .load .. | .nilCheck _ | .binOp .. | .unOp .. | .fieldAddr .. | .field .. | .indexAddr .. | .index .. | .extract .. | .slice .. | .build .. => .Y
 | _ => .X
def isY : Kd → Bool
 | .Y => true
 | _ => false
def isC : Kd → Bool
 | .C => true
 | _ => false
def isX : Kd → Bool
 | .X => true
 | _ => false
inductive SL (P : Program) (T : TT) (L : List Oper) (K : Kont) (N : Nat) (G : World) : List (Bool × Nat × Oper) → Env → UH → MH → Prop where
 | nil {E : Env} {U : UH} {M : MH} (h : SK K N G .normal E U M) : SL P T L K N G [] E U M
 | det {f : Bool} {i d : Nat} {o : Oper} {v : Value} {l : List (Bool × Nat × Oper)} {E : Env} {U : UH} {M : MH} (hk : f = false ∨ isY (kd T o.op) = true ∨ gok L E o.guard = some false) (hd : o.dst = some d) (hN : Nat.blt d N = true)
   (hy : Yg P L N G o E U M v) (h : SL P T L K N G l ((d, v) :: E) U M) : SL P T L K N G ((f, i, o) :: l) E U M
 | al {f : Bool} {i d t : Nat} {o : Oper} {z : Value} {l : List (Bool × Nat × Oper)} {E : Env} {U : UH} {M : MH} (ho : o.op = .alloc t) (hg : gok L E o.guard = some true) (hz : ∀ w, (zeroValue t).run P w = .ok z w) (hd : o.dst = some d) (hN : Nat.blt d N = true)
   (h : ∀ b, SL P T L K N G l ((d, .pointer (some ⟨b, 0, none⟩)) :: E) U ((b, .var z, t) :: M)) : SL P T L K N G ((f, i, o) :: l) E U M
 | gr {f : Bool} {i d : Nat} {o : Oper} {R : Value → UH → MH → Prop} {l : List (Bool × Nat × Oper)} {E : Env} {U : UH} {M : MH} (hk : f = false ∨ isC (kd T o.op) = true) (hd : o.dst = some d) (hN : Nat.blt d N = true)
   (hr : ∀ M2 a w, Has a N E → Mem G U (M2 ++ M) w → wpV P L o a w fun v w' => ∃ U' D, ULe U U' ∧ Mem G U' (D ++ (M2 ++ M)) w' ∧ R v U' D)
   (h : ∀ v U' D, ULe U U' → R v U' D → SL P T L K N G l ((d, v) :: E) U' (D ++ M)) : SL P T L K N G ((f, i, o) :: l) E U M
 | x {f : Bool} {i : Nat} {o : Oper} {R : Value → UH → MH → Prop} {l : List (Bool × Nat × Oper)} {E : Env} {U : UH} {M : MH} (hk : f = false ∨ isX (kd T o.op) = true)
   (hN : ∀ d, o.dst = some d → Nat.blt d N = true)
   (hr : ∀ a w, Has a N E → Mem G U M w → wpV P L o a w fun v w' => ∃ U' M', Mem G U' M' w' ∧ R v U' M')
   (h : ∀ v U' M', R v U' M' → SL P T L K N G l (match o.dst with | some d => (d, v) :: E | none => E) U' M') : SL P T L K N G ((f, i, o) :: l) E U M
def Wk (E' E : Env) : Prop := ∀ t v, lk E' t = some v → lk E t = some v
theorem Wk.refl (E : Env) : Wk E E := fun _ _ h => h
theorem Wk.cons {E' E : Env} (h : Wk E' E) (d : Nat) (v : Value) : Wk ((d, v) :: E') ((d, v) :: E) := by
 intro t u hu
 by_cases e : d = t
 ·subst e; rw [Jo] at hu ⊢; exact hu
 ·rw [QS e] at hu ⊢; exact h t u hu
theorem Has.wk {a : Act} {E' E : Env} (h : Has a N E) (hw : Wk E' E) : Has a N E' := ⟨h.defers, h.size, fun t v hv => h.get t v (hw t v hv)⟩
theorem Wk.swap {E : Env} {d e : Nat} {v u : Value} (h : d ≠ e) : Wk ((d, v) :: (e, u) :: E) ((e, u) :: (d, v) :: E) := by
 intro t x hx
 by_cases h1 : d = t
 ·subst h1
  rw [Jo] at hx
  rw [QS (Ne.symm h), Jo]; exact hx
 ·rw [QS h1] at hx
  by_cases h2 : e = t
  ·subst h2; rw [Jo] at hx ⊢; exact hx
  ·rw [QS h2] at hx ⊢; rw [QS h1]; exact hx
theorem SK.congr {e : Exit} {E' : Env} {M' : MH} (h : SK K N G e E' U M') (hw : Wk E' E) (hp : M'.Perm M) : SK K N G e E U M :=
 ⟨fun a w ha hm => h.run a w (ha.wk hw) (hm.perm hp.symm)⟩
theorem SL.congr {L : List Oper} {l : List (Bool × Nat × Oper)} {E' : Env} {M' : MH} (h : SL P T L K N G l E' U M') : ∀ {E : Env} {M : MH}, Wk E' E → M'.Perm M → SL P T L K N G l E U M := by
 induction h with
 | nil h => exact fun hw hp => .nil (h.congr hw hp)
 | det hk hd hN hy h ih =>
  exact fun hw hp => .det (hk.imp id (fun h => h.imp id fun hg => VZ hg fun _ _ _ d _ _ _ v hv => hw d v hv)) hd hN ⟨fun a w ha hm => hy.run a w (ha.wk hw) (hm.perm hp.symm)⟩ (ih (hw.cons _ _) hp)
 | al ho hg hz hd hN h ih =>
  exact fun hw hp => .al ho (VZ hg fun _ _ _ d _ _ _ v hv => hw d v hv) hz hd hN fun b => ih b (hw.cons _ _) (hp.cons _)
 | gr hk hd hN hr h ih =>
  intro E M hw hp
  exact .gr hk hd hN (fun M2 a w ha hm => Vh (hr M2 a w (ha.wk hw) (hm.perm (hp.symm.append_left M2))) fun v w' ⟨U', D, h1, h2, h3⟩ => ⟨U', D, h1, h2.perm ((hp.append_left M2).append_left D), h3⟩)
   (fun v U' D h1 h2 => ih v U' D h1 h2 (hw.cons _ _) (hp.append_left D))
 | @x f i o R l E0 U0 M0 hk hN hr h ih =>
  intro E M hw hp
  refine .x hk hN (fun a w ha hm => hr a w (ha.wk hw) (hm.perm hp.symm)) (fun v U' M' h1 => ih v U' M' h1 ?_ (List.Perm.refl _))
  cases o.dst with
  | none => exact hw
  | some d => exact hw.cons _ _
theorem SL.tail {L : List Oper} {p : Bool × Nat × Oper} {l l' : List (Bool × Nat × Oper)} (hl : ∀ E U M, SL P T L K N G l E U M → SL P T L K N G l' E U M) (h : SL P T L K N G (p :: l) E U M) : SL P T L K N G (p :: l') E U M := by
 cases h with
 | det hk hd hN hy h => exact .det hk hd hN hy (hl _ _ _ h)
 | al ho hg hz hd hN h => exact .al ho hg hz hd hN fun b => hl _ _ _ (h b)
 | gr hk hd hN hr h => exact .gr hk hd hN hr fun v U' D h1 h2 => hl _ _ _ (h v U' D h1 h2)
 | x hk hN hr h => exact .x hk hN hr fun v U' M' h1 => hl _ _ _ (h v U' M' h1)
def idx : Nat → List Oper → List (Bool × Nat × Oper)
 | _, [] => []
 | k, o :: r => (false, k, o) :: idx (k + 1) r
theorem Qcd : ∀ (l : List Oper) (k : Nat), (idx k l).map (·.2.2) = l
 | [], _ => rfl
 | o :: r, k => by simp [idx, Qcd r (k + 1)]
theorem SL.list {L : List Oper} {l : List (Bool × Nat × Oper)} (h : SL P T L K N G l E U M) : ∀ a w, Has a N E → Mem G U M w → wpList P L.toArray K (l.map (·.2.2)) a w := by
 induction h with
 | nil h => exact fun a w ha hm => wpList_nil (h.run a w ha hm)
 | @det f i d o v l E U M hk hd hN hy h ih =>
  intro a w ha hm
  rw [List.map_cons]
  unfold wpList
  rcases hy.run a w ha hm with ⟨h1, h2⟩ | ⟨h1, rfl⟩
  ·rw [h1, if_pos rfl]
   refine .inl ?_
   unfold Oper.wp
   rw [h2, Oper.upon_value, hd]
   exact ih _ w (ha.put hN v) hm
  ·rw [h1, if_neg (by simp), hd]
   exact ih _ w (ha.put hN _) hm
 | @al f i d t o z l E U M ho hg hz hd hN h ih =>
  intro a w ha hm
  rw [List.map_cons]
  unfold wpList
  rw [Je hg ha, if_pos rfl]
  refine .inl ?_
  have hr : (execOp a.eval o).run P w = .ok (.value (.pointer (some ⟨w.heap.size, 0, none⟩))) (w.alloc (.cells z.cells t)) := by
   simp [execOp, ho, Instr.alloc, newVar, newRow, hz]
  unfold Oper.wp
  rw [hr, Oper.upon_value, hd]
  exact ih _ _ _ (ha.put hN _) (hm.alloc (.var z) t)
 | @gr f i d o R l E U M hk hd hN hr h ih =>
  intro a w ha hm
  rw [List.map_cons]
  have h1 := hr [] a w ha hm
  unfold wpList
  unfold wpV at h1
  split
  ·rename_i hw
   rw [if_pos hw] at h1
   refine .inl (qh h1 ?_)
   rintro v w' ⟨U', D, h2, h3, h4⟩
   rw [hd]
   exact ih v U' D h2 h4 _ w' (ha.put hN v) h3
  ·rename_i hw
   rw [if_neg hw] at h1
   obtain ⟨U', D, h2, h3, h4⟩ := h1
   rw [hd]
   exact ih _ U' D h2 h4 _ w (ha.put hN _) h3
 | @x f i o R l E U M hk hN hr h ih =>
  intro a w ha hm
  rw [List.map_cons]
  have h1 := hr a w ha hm
  have hput : ∀ v, Has (a.put o.dst v) N (match o.dst with | some d => (d, v) :: E | none => E) := by
   intro v
   cases hd : o.dst with
   | none => exact ha
   | some d => exact ha.put (hN d hd) v
  unfold wpList
  unfold wpV at h1
  split
  ·rename_i hw
   rw [if_pos hw] at h1
   refine .inl (qh h1 ?_)
   rintro v w' ⟨U', M', h3, h4⟩
   exact ih v U' M' h4 _ w' (hput v) h3
  ·rename_i hw
   rw [if_neg hw] at h1
   obtain ⟨U', M', h3, h4⟩ := h1
   exact ih _ U' M' h4 _ w (hput _) h3
theorem JL {id : Nat} {L : List Oper} (h : SL P T L K N G (idx 0 L) E U M) : St P K N G (.region id L.toArray false) E U M :=
 ⟨fun a w ha hw => wp_region_lit (by have := h.list a w ha hw; rwa [Qcd] at this)⟩
end Go.Hp

/- The rules with which the functions are walked: a region that draws its order is walked in ONE order, and so in all. Program in general; no condition. -/
namespace Go.Hp
variable {P : Program} {T : TT} {K : Kont} {N : Nat} {G : World} {E : Env} {U : UH} {M : MH} {L : List Oper}
abbrev Ent := Bool × Nat × Oper
def noSel : Op → Bool
 | .select .. => false
 | _ => true
theorem JX {o : Oper} (h : noSel o.op = true) : ∀ cs b, o.op ≠ .select cs b := by
 intro cs b e; rw [e] at h; cases h
def isA (T : TT) (N : Nat) (o : Oper) : Bool :=
 match o.op, o.guard, o.dst with
 | .alloc t, none, some d => (lkT T t).isSome && Nat.blt d N
 | _, _, _ => false
def isMv (o : Oper) : Bool :=
 match o.op, o.guard with
 | .move _, none => true
 | .extract _ _, none => true
 | _, _ => false
def swapOK (T : TT) (N : Nat) (L : List Oper) (i j : Oper) : Bool :=
 i.apart L.toArray j && noSel i.op && noSel j.op && (((isY (kd T i.op) && !isX (kd T j.op)) || (isA T N j && !isX (kd T i.op))) || (isMv i && isX (kd T j.op)))
theorem Has.back {a : Act} {d : Nat} {v : Value} (h : Has a N ((d, v) :: E)) : ∃ u, Has (a.put (some d) u) N E := by
 cases hl : lk E d with
 | none =>
  refine ⟨v, h.defers, by simp [Act.put, h.size], fun t x hx => ?_⟩
  have hne : d ≠ t := fun e => by subst e; rw [hl] at hx; cases hx
  simp only [Act.put, Array.getElem?_setIfInBounds_ne hne]
  exact h.get t x (by rw [QS hne]; exact hx)
 | some u =>
  refine ⟨u, h.defers, by simp [Act.put, h.size], fun t x hx => ?_⟩
  by_cases e : d = t
  ·subst e
   rw [hl] at hx; cases hx
   have hd := h.get d v Jo
   have hlt : d < a.tmps.size := (Array.getElem?_eq_some_iff.1 hd).1
   simp [Act.put, hlt]
  ·simp only [Act.put, Array.getElem?_setIfInBounds_ne e]
   exact h.get t x (by rw [QS e]; exact hx)
theorem jG {o g : Oper} {j d : Nat} {want : Bool} (hg : o.guard = some (j, want)) (hn : nth L j = some g) (hd : g.dst = some d) : d ∈ o.looksAt L.toArray := by
 rw [Jg] at hn
 unfold Oper.looksAt
 rw [hg]
 refine List.mem_append_right _ ?_
 simp [hn, hd]
theorem VN {o : Oper} {d : Nat} {v : Value} {b : Bool} (h : gok L ((d, v) :: E) o.guard = some b) (hd : d ∉ o.looksAt L.toArray) : gok L E o.guard = some b :=
 VZ h fun j want g e hg hn he u hu => by
  have : d ≠ e := fun x => hd (x ▸ jG hg hn he)
  rwa [QS this] at hu
theorem Yd {o : Oper} {d : Nat} {v : Value} {b : Bool} (h : gok L E o.guard = some b) (hd : d ∉ o.looksAt L.toArray) : gok L ((d, v) :: E) o.guard = some b :=
 VZ h fun j want g e hg hn he u hu => by
  have : d ≠ e := fun x => hd (x ▸ jG hg hn he)
  rwa [QS this]
theorem Yg.drop {o : Oper} {d : Nat} {u v : Value} (h : Yg P L N G o ((d, u) :: E) U M v) (hs : noSel o.op = true) (hN : Nat.blt d N = true) (hd : d ∉ o.looksAt L.toArray) : Yg P L N G o E U M v := by
 refine ⟨fun a w ha hm => ?_⟩
 have h1 := h.run (a.put (some d) u) w (ha.put hN u) hm
 rw [execOp_put o (JX hs) a (some d) u (fun e he => by cases he; exact hd), wanted_put o a (some d) u (fun e he => by cases he; exact hd)] at h1
 exact h1
theorem Yg.add {o : Oper} {d : Nat} {u v : Value} (h : Yg P L N G o E U M v) (hs : noSel o.op = true) (hd : d ∉ o.looksAt L.toArray) : Yg P L N G o ((d, u) :: E) U M v := by
 refine ⟨fun a w ha hm => ?_⟩
 obtain ⟨x, hx⟩ := ha.back
 have h1 := h.run (a.put (some d) x) w hx hm
 rw [execOp_put o (JX hs) a (some d) x (fun e he => by cases he; exact hd), wanted_put o a (some d) x (fun e he => by cases he; exact hd)] at h1
 exact h1
theorem Yg.anti {o : Oper} {v : Value} {U' : UH} {M' : MH} (h : Yg P L N G o E U M v) (hU : ULe U U') (hM : M.Sublist M') : Yg P L N G o E U' M' v :=
 ⟨fun a w ha hm => h.run a w ha (hm.anti hU hM)⟩
theorem Qfh {t : Nat} {z z' : Value} (h : ∀ w, (zeroValue t).run P w = .ok z w) (h' : ∀ w, (zeroValue t).run P w = .ok z' w) : z = z' := by
 have h1 := h default
 rw [h' default] at h1
 cases h1; rfl
theorem QdG (hS : Sym P T) {o : Oper} (h : isA T N o = true) : ∃ t z d, o.op = .alloc t ∧ o.guard = none ∧ (∀ w, (zeroValue t).run P w = .ok z w) ∧ o.dst = some d ∧ Nat.blt d N = true := by
 unfold isA at h
 split at h
 ·rename_i t d ho hg hd
  simp only [Bool.and_eq_true] at h
  obtain ⟨i, hi⟩ := Option.isSome_iff_exists.1 h.1
  exact ⟨t, i.zero, d, ho, hg, fun w => (hS.at hi).run_zero w, hd, h.2⟩
 ·cases h
theorem SL.al_inv {f : Bool} {j : Nat} {o : Oper} {l : List Ent} {t : Nat} {z : Value} (hf : f = true) (ho : o.op = .alloc t) (hg : o.guard = none) (hz : ∀ w, (zeroValue t).run P w = .ok z w) (h : SL P T L K N G ((f, j, o) :: l) E U M) :
  ∃ d, o.dst = some d ∧ Nat.blt d N = true ∧ ∀ b, SL P T L K N G l ((d, .pointer (some ⟨b, 0, none⟩)) :: E) U ((b, .var z, t) :: M) := by
 cases h with
 | det hk hd hN hy h =>
  rcases hk with hk | hk | hk
  ·rw [hf] at hk; cases hk
  ·rw [ho] at hk; cases hk
  ·rw [hg] at hk; cases hk
 | al ho' hg' hz' hd hN h =>
  rw [ho] at ho'
  cases ho'
  have := Qfh hz hz'
  subst this
  exact ⟨_, hd, hN, h⟩
 | gr hk hd hN hr h =>
  rcases hk with hk | hk
  ·rw [hf] at hk; cases hk
  ·rw [ho] at hk; cases hk
 | x hk hN hr h =>
  rcases hk with hk | hk
  ·rw [hf] at hk; cases hk
  ·rw [ho] at hk; cases hk
theorem SL.swap (hS : Sym P T) {i j : Nat} {oi oj : Oper} {l : List Ent} (h : SL P T L K N G ((true, i, oi) :: (true, j, oj) :: l) E U M) (hs : swapOK T N L oi oj = true) :
  SL P T L K N G ((true, j, oj) :: (true, i, oi) :: l) E U M := by
 simp only [swapOK, Bool.and_eq_true, Bool.or_eq_true, Bool.not_eq_true'] at hs
 obtain ⟨⟨⟨hap, hsi⟩, hsj⟩, hk⟩ := hs
 obtain ⟨a1, a2, a3⟩ := Oper.apart_spec hap
 have perm2 : ∀ (x y : Nat × Blk × Nat) (M : MH), (x :: y :: M).Perm (y :: x :: M) := fun x y M => List.Perm.swap y x M
 rcases hk with (⟨hY, hX⟩ | ⟨hA, hX⟩) | ⟨hmv, hX⟩
 ·
  cases h with
  | @det _ _ di _ vi _ _ _ _ hki hdi hNi hyi h =>
   have g1 := a1 di hdi
   cases h with
   | @det _ _ dj _ vj _ _ _ _ hkj hdj hNj hyj h =>
    have g2 : di ≠ dj := fun e => a2 di hdi (e ▸ hdj)
    have g3 := a3 dj hdj
    exact .det (hkj.imp id (fun h => h.imp id fun h => VN h g1)) hdj hNj (hyj.drop hsj hNi g1)
     (.det (hki.imp id (fun h => h.imp id fun h => Yd h g3)) hdi hNi (hyi.add hsi g3) (h.congr (Wk.swap (Ne.symm g2)) (List.Perm.refl _)))
   | @al _ _ dj t _ z _ _ _ _ ho hg hz hdj hNj h =>
    have g2 : di ≠ dj := fun e => a2 di hdi (e ▸ hdj)
    have g3 := a3 dj hdj
    exact .al ho (VN hg g1) hz hdj hNj fun b =>
     .det (hki.imp id (fun h => h.imp id fun h => Yd h g3)) hdi hNi ((hyi.add hsi g3).anti (ULe.refl _) (List.sublist_cons_self ..)) ((h b).congr (Wk.swap (Ne.symm g2)) (List.Perm.refl _))
   | @gr _ _ dj _ R _ _ _ _ hkj hdj hNj hr h =>
    have g2 : di ≠ dj := fun e => a2 di hdi (e ▸ hdj)
    have g3 := a3 dj hdj
    refine .gr hkj hdj hNj (fun M2 a w ha hm => ?_) (fun v U' D h1 h2 =>
     .det (hki.imp id (fun h => h.imp id fun h => Yd h g3)) hdi hNi ((hyi.add hsi g3).anti h1 (List.sublist_append_right ..)) ((h v U' D h1 h2).congr (Wk.swap (Ne.symm g2)) (List.Perm.refl _)))
    have := hr M2 (a.put (some di) vi) w (ha.put hNi vi) hm
    exact Vo (execOp_put oj (JX hsj) a (some di) vi (fun e he => by cases he; exact g1)).symm (wanted_put oj a (some di) vi (fun e he => by cases he; exact g1)).symm this
   | x hkj hN hr h =>
    rcases hkj with hkj | hkj
    ·cases hkj
    ·rw [hX] at hkj; cases hkj
  | al ho hg hz hd hN h => rw [ho] at hY; cases hY
  | gr hki hd hN hr h =>
   rcases hki with hki | hki
   ·cases hki
   ·generalize kd T oi.op = k at hY hki; cases k <;> simp [isY, isC] at hY hki
  | x hki hN hr h =>
   rcases hki with hki | hki
   ·cases hki
   ·generalize kd T oi.op = k at hY hki; cases k <;> simp [isY, isX] at hY hki
 ·
  obtain ⟨t, z, dj, hoj, hgj, hz, hdj, hNj⟩ := QdG hS hA
  cases h with
  | @det _ _ di _ vi _ _ _ _ hki hdi hNi hyi h =>
   obtain ⟨dj', hdj', _, h⟩ := SL.al_inv rfl hoj hgj hz h
   rw [hdj] at hdj'
   cases hdj'
   have g2 : di ≠ dj := fun e => a2 di hdi (e ▸ hdj)
   have g3 := a3 dj hdj
   exact .al hoj (by rw [hgj]; rfl) hz hdj hNj fun b =>
    .det (hki.imp id (fun h => h.imp id fun h => Yd h g3)) hdi hNi ((hyi.add hsi g3).anti (ULe.refl _) (List.sublist_cons_self ..)) ((h b).congr (Wk.swap (Ne.symm g2)) (List.Perm.refl _))
  | @al _ _ di ti _ zi _ _ _ _ hoi hgi hzi hdi hNi h =>
   have g2 : di ≠ dj := fun e => a2 di hdi (e ▸ hdj)
   have g3 := a3 dj hdj
   refine .al hoj (by rw [hgj]; rfl) hz hdj hNj fun b => .al hoi (Yd hgi g3) hzi hdi hNi fun b' => ?_
   obtain ⟨dj', hdj', _, h'⟩ := SL.al_inv rfl hoj hgj hz (h b')
   rw [hdj] at hdj'
   cases hdj'
   exact (h' b).congr (Wk.swap (Ne.symm g2)) (perm2 _ _ _)
  | @gr _ _ di _ R _ _ _ _ hki hdi hNi hr h =>
   have g2 : di ≠ dj := fun e => a2 di hdi (e ▸ hdj)
   have g3 := a3 dj hdj
   refine .al hoj (by rw [hgj]; rfl) hz hdj hNj fun b => .gr (R := R) hki hdi hNi (fun M2 a w ha hm => ?_) (fun v U' D h1 h2 => ?_)
   ·obtain ⟨x, hx⟩ := ha.back
    have hm' : Mem G U ((M2 ++ [(b, .var z, t)]) ++ M) w := by simpa using hm
    have := hr (M2 ++ [(b, .var z, t)]) (a.put (some dj) x) w hx hm'
    have h2 := Vo (execOp_put oi (JX hsi) a (some dj) x (fun e he => by cases he; exact g3)).symm (wanted_put oi a (some dj) x (fun e he => by cases he; exact g3)).symm this
    refine Vh h2 ?_
    rintro v w' ⟨U', D, k1, k2, k3⟩
    exact ⟨U', D, k1, by simpa using k2, k3⟩
   ·obtain ⟨dj', hdj', _, h'⟩ := SL.al_inv rfl hoj hgj hz (h v U' D h1 h2)
    rw [hdj] at hdj'
    cases hdj'
    refine (h' b).congr (Wk.swap (Ne.symm g2)) ?_
    exact List.perm_middle.symm
  | x hki hN hr h =>
   rcases hki with hki | hki
   ·cases hki
   ·rw [hX] at hki; cases hki
 ·
  have hgx : oi.guard = none := by
   unfold isMv at hmv
   split at hmv
   ·assumption
   ·assumption
   ·cases hmv
  have hY : isY (kd T oi.op) = true := by
   unfold isMv at hmv
   split at hmv
   ·rename_i x h1 h2; rw [h1]; rfl
   ·rename_i x h1 h2; rw [h1]; rfl
   ·cases hmv
  have hmvw : ∀ (a : Act) (w w' : World) (v : Value), (execOp a.eval oi).run P w = .ok (.value v) w → (execOp a.eval oi).run P w' = .ok (.value v) w' := by
   intro a w w' v h
   unfold isMv at hmv
   split at hmv
   ·rename_i x h1 h2
    simp only [execOp, h1, Sem.run_pure] at h ⊢
    simpa using h
   ·rename_i x j h1 h2
    simp only [execOp, h1, Sem.run_bind] at h ⊢
    unfold Instr.extract at h ⊢
    generalize a.eval x = t at *
    cases t with
    | tuple vs =>
     simp only at h ⊢
     cases hv : vs[j]? with
     | some u => simp [hv] at h ⊢; exact h
     | none => simp [hv] at h
    | _ => simp at h
   ·cases hmv
  cases h with
  | @det _ _ di _ vi _ _ _ _ hki hdi hNi hyi h =>
   have g1 := a1 di hdi
   cases h with
   | @det _ _ dj _ vj _ _ _ _ hkj hdj hNj hyj h =>
    have g2 : di ≠ dj := fun e => a2 di hdi (e ▸ hdj)
    have g3 := a3 dj hdj
    exact .det (hkj.imp id (fun h => h.imp id fun h => VN h g1)) hdj hNj (hyj.drop hsj hNi g1)
     (.det (hki.imp id (fun h => h.imp id fun h => Yd h g3)) hdi hNi (hyi.add hsi g3) (h.congr (Wk.swap (Ne.symm g2)) (List.Perm.refl _)))
   | al ho hg hz hd hN h => rw [ho] at hX; cases hX
   | gr hkj hd hN hr h =>
    rcases hkj with hkj | hkj
    ·cases hkj
    ·generalize kd T oj.op = k at hX hkj; cases k <;> simp [isX, isC] at hX hkj
   | @x _ _ _ R _ _ _ _ hkj hN hr h =>
    refine .x (R := fun v U' M' => R v U' M' ∧ ∃ w, Mem G U M w) hkj hN (fun a w ha hm => ?_) (fun v U' M' ⟨hR, w0, hm0⟩ => ?_)
    ·have h1 := hr (a.put (some di) vi) w (ha.put hNi vi) hm
     have h2 := Vo (execOp_put oj (JX hsj) a (some di) vi (fun e he => by cases he; exact g1)).symm (wanted_put oj a (some di) vi (fun e he => by cases he; exact g1)).symm h1
     refine Vh h2 ?_
     rintro v w' ⟨U', M', k1, k2⟩
     exact ⟨U', M', k1, k2, w, hm⟩
    ·have hy0 : Yg P L N G oi E U' M' vi := by
      refine ⟨fun a w ha hm => ?_⟩
      have hw : Region.wanted oi (yielded L.toArray a.tmps) = true := by simp [Region.wanted, hgx]
      rcases hyi.run a w0 ha hm0 with ⟨_, h2⟩ | ⟨h1, _⟩
      ·exact .inl ⟨hw, hmvw a w0 w vi h2⟩
      ·rw [hw] at h1; cases h1
     have h3 := h v U' M' hR
     cases hdj : oj.dst with
     | none =>
      rw [hdj] at h3
      exact .det hki hdi hNi hy0 h3
     | some dj =>
      rw [hdj] at h3
      have g2 : di ≠ dj := fun e => a2 di hdi (e ▸ hdj)
      have g3 := a3 dj hdj
      exact .det (hki.imp id (fun h => h.imp id fun h => Yd h g3)) hdi hNi (hy0.add hsi g3) (h3.congr (Wk.swap (Ne.symm g2)) (List.Perm.refl _))
  | al ho hg hz hd hN h => rw [ho] at hY; cases hY
  | gr hki hd hN hr h =>
   rcases hki with hki | hki
   ·cases hki
   ·generalize kd T oi.op = k at hY hki; cases k <;> simp [isY, isC] at hY hki
  | x hki hN hr h =>
   rcases hki with hki | hki
   ·cases hki
   ·generalize kd T oi.op = k at hY hki; cases k <;> simp [isY, isX] at hY hki
theorem SL.front (hS : Sym P T) {j : Nat} {oj : Oper} {post : List Ent} : ∀ {pre : List Ent} {E : Env} {U : UH} {M : MH}, (∀ p ∈ pre, p.1 = true ∧ swapOK T N L p.2.2 oj = true) → SL P T L K N G (pre ++ (true, j, oj) :: post) E U M →
  SL P T L K N G ((true, j, oj) :: (pre ++ post)) E U M
 | [], _, _, _, _, h => h
 | (f, i, oi) :: pre, E, U, M, hp, h => by
  obtain ⟨h1, h2⟩ := hp _ (List.mem_cons_self ..)
  cases h1
  have h3 : SL P T L K N G ((true, i, oi) :: (true, j, oj) :: (pre ++ post)) E U M := SL.tail (fun E U M h => SL.front hS (fun p hp' => hp p (List.mem_cons_of_mem _ hp')) h) h
  exact SL.swap hS h3 h2
def reachB (L : List Oper) (k : Nat) : Nat → Nat → Bool
 | 0, _ => false
 | fuel + 1, i => match nth L i with
  | some o => o.after.toList.any (fun e => Region.binds .any e && Nat.beq e.on k) || o.after.toList.any (fun e => Region.binds .any e && reachB L k fuel e.on)
  | none => false
def Closed (L : List Oper) (listed : Array Bool) : Prop := ∀ i o, L[i]? = some o → listed.getD i false = true → ∀ e ∈ o.after, Region.binds .any e = true → listed.getD e.on false = true
theorem VJ {listed : Array Bool} (hc : Closed L listed) {k : Nat} : ∀ (fuel i : Nat) (o : Oper), L[i]? = some o → (∀ e ∈ o.after, Region.binds .any e = true → listed.getD e.on false = true) → reachB L k fuel i = true → listed.getD k false = true
 | 0, _, _, _, _, h => by cases h
 | fuel + 1, i, o, ho, hall, h => by
  have hn : nth L i = some o := by rw [Jg]; exact ho
  simp only [reachB, hn, Bool.or_eq_true, List.any_eq_true, Bool.and_eq_true] at h
  rcases h with ⟨e, he, hb, hk⟩ | ⟨e, he, hb, hk⟩
  ·have := Nat.eq_of_beq_eq_true hk
   subst this
   exact hall e (by simpa using he) hb
  ·have hl := hall e (by simpa using he) hb
   cases ho' : L[e.on]? with
   | none =>
    cases fuel with
    | zero => cases hk
    | succ fuel => rw [reachB, Jg, ho'] at hk; cases hk
   | some o' => exact VJ hc fuel e.on o' ho' (hc _ _ ho' hl) hk
theorem SL.wpOp {i : Nat} {o : Oper} {l : List Ent} (hi : L[i]? = some o) {f : Bool} (h : SL P T L K N G ((f, i, o) :: l) E U M) {a : Act} {w : World} (ha : Has a N E) (hm : Mem G U M w) {J : Act → World → Prop}
  (hJ : ∀ E U M a w, SL P T L K N G l E U M → Has a N E → Mem G U M w → J a w) : wpOp P L.toArray K i J a w := by
 unfold Go.wpOp
 simp only [List.getElem?_toArray, hi]
 cases h with
 | @det _ _ d _ v _ _ _ _ hk hd hN hy h =>
  rcases hy.run a w ha hm with ⟨h1, h2⟩ | ⟨h1, rfl⟩
  ·rw [h1, if_pos rfl]
   refine .inl ?_
   unfold Oper.wp
   rw [h2, Oper.upon_value, hd]
   exact hJ _ _ _ _ _ h (ha.put hN v) hm
  ·rw [h1, if_neg (by simp), hd]
   exact hJ _ _ _ _ _ h (ha.put hN _) hm
 | @al _ _ d t _ z _ _ _ _ ho hg hz hd hN h =>
  rw [Je hg ha, if_pos rfl]
  refine .inl ?_
  have hr : (execOp a.eval o).run P w = .ok (.value (.pointer (some ⟨w.heap.size, 0, none⟩))) (w.alloc (.cells z.cells t)) := by
   simp [execOp, ho, Instr.alloc, newVar, newRow, hz]
  unfold Oper.wp
  rw [hr, Oper.upon_value, hd]
  exact hJ _ _ _ _ _ (h _) (ha.put hN _) (hm.alloc (.var z) t)
 | @gr _ _ d _ R _ _ _ _ hk hd hN hr h =>
  have h1 := hr [] a w ha hm
  unfold wpV at h1
  split
  ·rename_i hw
   rw [if_pos hw] at h1
   refine .inl (qh h1 ?_)
   rintro v w' ⟨U', D, h2, h3, h4⟩
   rw [hd]
   exact hJ _ _ _ _ _ (h v U' D h2 h4) (ha.put hN v) h3
  ·rename_i hw
   rw [if_neg hw] at h1
   obtain ⟨U', D, h2, h3, h4⟩ := h1
   rw [hd]
   exact hJ _ _ _ _ _ (h _ U' D h2 h4) (ha.put hN _) h3
 | @x _ _ _ R _ _ _ _ hk hN hr h =>
  have h1 := hr a w ha hm
  have hput : ∀ v, Has (a.put o.dst v) N (match o.dst with | some d => (d, v) :: E | none => E) := by
   intro v
   cases hd : o.dst with
   | none => exact ha
   | some d => exact ha.put (hN d hd) v
  unfold wpV at h1
  split
  ·rename_i hw
   rw [if_pos hw] at h1
   refine .inl (qh h1 ?_)
   rintro v w' ⟨U', M', h3, h4⟩
   exact hJ _ _ _ _ _ (h v U' M' h4) (hput v) h3
  ·rename_i hw
   rw [if_neg hw] at h1
   obtain ⟨U', M', h3, h4⟩ := h1
   exact hJ _ _ _ _ _ (h _ U' M' h4) (hput _) h3
def pairB (T : TT) (N : Nat) (L : List Oper) (p q : Ent) : Bool := swapOK T N L p.2.2 q.2.2 || reachB L p.2.1 (L.length + 1) q.2.1
def pairsB (T : TT) (N : Nat) (L : List Oper) : List Ent → Bool
 | [] => true
 | p :: r => r.all (pairB T N L p) && pairsB T N L r
theorem jE : ∀ {l : List Ent}, pairsB T N L l = true → l.Pairwise fun p q => pairB T N L p q = true
 | [], _ => List.Pairwise.nil
 | p :: r, h => by
  simp only [pairsB, Bool.and_eq_true, List.all_eq_true] at h
  exact List.pairwise_cons.2 ⟨h.1, jE h.2⟩
theorem Qhx (hS : Sym P T) (hdown : ∀ (i : Nat) (o : Oper), L[i]? = some o → ∀ e ∈ o.after, Region.binds .any e = true → e.on < i) : ∀ (n : Nat) (l : List Ent) (E : Env) (U : UH) (M : MH) (listed : Array Bool) (a : Act) (w : World), l.length = n → listed.size = L.length →
  (∀ p ∈ l, p.1 = true ∧ L[p.2.1]? = some p.2.2) → (l.map (·.2.1)).Nodup → (∀ i, i < L.length → (listed.getD i true = false ↔ i ∈ l.map (·.2.1))) → l.Pairwise (fun p q => pairB T N L p q = true) → Closed L listed →
  SL P T L K N G l E U M → Has a N E → Mem G U M w → wpAny P .any L.toArray K n listed a w := by
 intro n
 induction n with
 | zero =>
  intro l E U M listed a w hn hsz hok hnd hli hpw hcl h ha hm
  have : l = [] := List.eq_nil_of_length_eq_zero hn
  subst this
  cases h with
  | nil h =>
   refine ⟨?_, h.run a w ha hm⟩
   rw [List.eq_nil_iff_forall_not_mem]
   intro i hi
   obtain ⟨h1, o, ho, _⟩ := mem_ready.1 hi
   have hlt : i < L.length := by
    simp only [List.getElem?_toArray] at ho
    exact (List.getElem?_eq_some_iff.1 ho).1
   have := (hli i hlt).1 h1
   simp at this
 | succ n ih =>
  intro l E U M listed a w hn hsz hok hnd hli hpw hcl h ha hm
  constructor
  ·intro hnil
   exfalso
   -- the least number that has not come up is ready
   have hex : ∃ i, i < L.length ∧ listed.getD i true = false := by
    cases l with
    | nil => cases hn
    | cons p r =>
     have h1 := (hok p (List.mem_cons_self ..)).2
     have hlt := (List.getElem?_eq_some_iff.1 h1).1
     exact ⟨p.2.1, hlt, (hli _ hlt).2 (by simp)⟩
   have hmin : ∀ m, (∃ i, i < m ∧ i < L.length ∧ listed.getD i true = false) → ∃ i, i < L.length ∧ listed.getD i true = false ∧ ∀ k, k < i → listed.getD k true = true := by
    intro m
    induction m with
    | zero => rintro ⟨i, hi, _⟩; omega
    | succ m ihm =>
     rintro ⟨i, hi, h1, h2⟩
     by_cases hk : ∃ k, k < m ∧ k < L.length ∧ listed.getD k true = false
     ·exact ihm hk
     ·refine ⟨i, h1, h2, fun k hk' => ?_⟩
      cases hb : listed.getD k true with
      | true => rfl
      | false => exact (hk ⟨k, by omega, by omega, hb⟩).elim
   obtain ⟨i, h1, h2⟩ := hex
   obtain ⟨i, h1, h2, h3⟩ := hmin (i + 1) ⟨i, by omega, h1, h2⟩
   have hmem : i ∈ Region.ready .any L.toArray listed := by
    refine mem_ready.2 ⟨h2, L[i], by simp [h1], fun e he hb => ?_⟩
    have hlt := hdown i _ (List.getElem?_eq_getElem h1) e he hb
    have h4 := h3 e.on hlt
    have h5 : e.on < listed.size := by omega
    simp only [Array.getD_eq_getD_getElem?, Array.getElem?_eq_getElem h5, Option.getD_some] at h4 ⊢
    exact h4
   rw [hnil] at hmem
   cases hmem
  ·intro i hi
   obtain ⟨h1, o, ho, hall⟩ := mem_ready.1 hi
   simp only [List.getElem?_toArray] at ho
   have hlt := (List.getElem?_eq_some_iff.1 ho).1
   have hmem := (hli i hlt).1 h1
   obtain ⟨p, hp, hpi⟩ := List.mem_map.1 hmem
   obtain ⟨pre, post, rfl⟩ := List.append_of_mem hp
   obtain ⟨f, i', o'⟩ := p
   simp only at hpi
   subst hpi
   obtain ⟨hf, ho'⟩ := hok _ hp
   simp only at hf ho'
   subst hf
   rw [ho] at ho'
   cases ho'
   have hfront : ∀ q ∈ pre, q.1 = true ∧ swapOK T N L q.2.2 o = true := by
    intro q hq
    have hq' := hok q (List.mem_append_left _ hq)
    refine ⟨hq'.1, ?_⟩
    have hpp := (List.pairwise_append.1 hpw).2.2 q hq _ (List.mem_cons_self ..)
    simp only [pairB, Bool.or_eq_true] at hpp
    rcases hpp with hpp | hpp
    ·exact hpp
    ·exfalso
     have hl := VJ hcl _ _ _ ho (fun e he hb => hall e he hb) hpp
     have hql := (List.getElem?_eq_some_iff.1 hq'.2).1
     have hq2 := (hli _ hql).2 (List.mem_map.2 ⟨q, List.mem_append_left _ hq, rfl⟩)
     have h5 : q.2.1 < listed.size := by omega
     simp only [Array.getD_eq_getD_getElem?, Array.getElem?_eq_getElem h5, Option.getD_some] at hl hq2
     rw [hl] at hq2; cases hq2
   have h2 := SL.front hS hfront h
   refine SL.wpOp ho h2 ha hm fun E U M a w h ha hm => ?_
   refine ih (pre ++ post) E U M _ a w ?_ (by simp [hsz]) ?_ ?_ ?_ ?_ ?_ h ha hm
   ·simp at hn ⊢; omega
   ·intro q hq
    refine hok q ?_
    rcases List.mem_append.1 hq with hq | hq
    ·exact List.mem_append_left _ hq
    ·exact List.mem_append_right _ (List.mem_cons_of_mem _ hq)
   ·rw [List.map_append, List.map_cons] at hnd
    rw [List.map_append]
    exact (List.nodup_append.1 (List.perm_middle.nodup_iff.1 hnd |> fun h => (List.nodup_cons.1 h).2) |> fun h => List.nodup_append.2 h)
   ·intro k hk
    rw [List.map_append, List.map_cons] at hnd
    have hni := (List.nodup_cons.1 (List.perm_middle.nodup_iff.1 hnd)).1
    by_cases e : i' = k
    ·subst e
     rw [List.map_append]
     constructor
     ·intro h
      rw [Array.getD_eq_getD_getElem?, Array.getElem?_setIfInBounds] at h
      simp [hsz, hk] at h
     ·intro h; exact absurd h hni
    ·rw [getD_set_ne true e, hli k hk]
     simp only [List.map_append, List.map_cons, List.mem_append, List.mem_cons]
     constructor
     ·rintro (h | h | h)
      ·exact .inl h
      ·exact absurd h.symm e
      ·exact .inr h
     ·rintro (h | h)
      ·exact .inl h
      ·exact .inr (.inr h)
   ·exact hpw.sublist (List.Sublist.append (List.Sublist.refl _) (List.sublist_cons_self ..))
   ·intro k ok hk hlk e he hb
    by_cases ek : i' = k
    ·subst ek
     rw [ho] at hk
     cases hk
     exact getD_set_true (hall e he hb)
    ·rw [getD_set_ne false ek] at hlk
     exact getD_set_true (hcl k ok hk hlk e he hb)
def pick (L : List Oper) : List Nat → List Ent
 | [] => []
 | i :: r => match nth L i with
  | some o => (true, i, o) :: pick L r
  | none => pick L r
def nodupB : List Nat → Bool
 | [] => true
 | i :: r => !r.any (Nat.beq i) && nodupB r
theorem YP : ∀ {l : List Nat}, nodupB l = true → l.Nodup
 | [], _ => List.nodup_nil
 | i :: r, h => by
  simp only [nodupB, Bool.and_eq_true, Bool.not_eq_true', List.any_eq_false] at h
  refine List.nodup_cons.2 ⟨fun hm => ?_, YP h.2⟩
  exact h.1 i hm (by simp)
def downB : Nat → List Oper → Bool
 | _, [] => true
 | k, o :: r => o.after.toList.all (fun e => !Region.binds .any e || Nat.blt e.on k) && downB (k + 1) r
theorem VD : ∀ {l : List Oper} {k : Nat}, downB k l = true → ∀ (i : Nat) (o : Oper), l[i]? = some o → ∀ e ∈ o.after, Region.binds .any e = true → e.on < k + i
 | [], _, _, i, o, hi, _, _, _ => by simp at hi
 | x :: r, k, h, 0, o, hi, e, he, hb => by
  simp only [downB, Bool.and_eq_true, List.all_eq_true] at h
  simp only [List.getElem?_cons_zero, Option.some.injEq] at hi
  subst hi
  have h2 := h.1 e (by simpa using he)
  rw [hb] at h2
  have h3 : e.on < k := by simpa using h2
  omega
 | x :: r, k, h, i + 1, o, hi, e, he, hb => by
  simp only [downB, Bool.and_eq_true] at h
  simp only [List.getElem?_cons_succ] at hi
  have := VD h.2 i o hi e he hb
  omega
def coverB (ord : List Nat) : Nat → Bool
 | 0 => true
 | n + 1 => ord.any (Nat.beq n) && coverB ord n
theorem YR {ord : List Nat} : ∀ {n : Nat}, coverB ord n = true → ∀ i, i < n → i ∈ ord
 | 0, _, i, hi => by omega
 | n + 1, h, i, hi => by
  simp only [coverB, Bool.and_eq_true, List.any_eq_true] at h
  by_cases e : i = n
  ·subst e
   obtain ⟨k, hk, hb⟩ := h.1
   rw [Nat.eq_of_beq_eq_true hb]; exact hk
  ·exact YR h.2 i (by omega)
def drawOK (T : TT) (N : Nat) (L : List Oper) (ord : List Nat) : Bool :=
 Nat.beq ord.length L.length && ord.all (fun i => Nat.blt i L.length) && nodupB ord && coverB ord L.length && downB 0 L && pairsB T N L (pick L ord)
theorem yn : ∀ {ord : List Nat}, (∀ i ∈ ord, i < L.length) → (pick L ord).map (·.2.1) = ord
 | [], _ => rfl
 | i :: r, h => by
  have h1 := h i (List.mem_cons_self ..)
  have h2 : nth L i = some L[i] := by rw [Jg, List.getElem?_eq_getElem h1]
  simp only [pick, h2, List.map_cons, yn fun k hk => h k (List.mem_cons_of_mem _ hk)]
theorem ql : ∀ {ord : List Nat}, ∀ p ∈ pick L ord, p.1 = true ∧ L[p.2.1]? = some p.2.2
 | [], p, h => by cases h
 | i :: r, p, h => by
  unfold pick at h
  split at h
  ·rename_i o ho
   rcases List.mem_cons.1 h with rfl | h
   ·rw [Jg] at ho; exact ⟨rfl, ho⟩
   ·exact ql p h
  ·exact ql p h
theorem Qt {id : Nat} (ord : List Nat) (hS : Sym P T) (hc : drawOK T N L ord = true) (h : SL P T L K N G (pick L ord) E U M) : St P K N G (.region id L.toArray true) E U M := by
 simp only [drawOK, Bool.and_eq_true, List.all_eq_true] at hc
 obtain ⟨⟨⟨⟨⟨h1, h2⟩, h3⟩, h6⟩, h4⟩, h5⟩ := hc
 have e1 := Nat.eq_of_beq_eq_true h1
 have h2' : ∀ i ∈ ord, i < L.length := fun i hi => Nat.le_of_ble_eq_true (h2 i hi)
 have hmap := yn h2'
 have hnd := YP h3
 refine ⟨fun a w ha hm => wp_region_any hS.mixed ?_⟩
 have hlen : (pick L ord).length = L.length := by rw [← e1, ← hmap, List.length_map, hmap]
 simp only [List.size_toArray]
 refine Qhx hS (fun i o hi e he hb => by have := VD h4 i o hi e he hb; omega) L.length (pick L ord) E U M _ a _ hlen (by simp) ql (by rw [hmap]; exact hnd) (fun i hi => ?_) (jE h5) (fun i o hi hl => ?_) h ha (hm.drawn _)
 ·rw [hmap]
  constructor
  ·intro _; exact YR h6 i hi
  ·intro _; simp [hi]
 ·have hlt := (List.getElem?_eq_some_iff.1 hi).1
  simp [hlt] at hl
end Go.Hp

/- The rules with which the functions are walked, third part: loads, stores, allocations, calls, returns. Program in general; no condition. -/
namespace Go.Hp
variable {P : Program} {T : TT} {K : Kont} {N : Nat} {G : World} {E : Env} {U : UH} {M : MH}
structure Yl (P : Program) (N : Nat) (G : World) (o : Oper) (E : Env) (U : UH) (M : MH) (v : Value) : Prop where
 run : ∀ a w, Has a N E → Mem G U M w → (execOp a.eval o).run P w = .ok (.value v) w
theorem VM {L : List Oper} (h : SK K N G .normal E U M) : SL P T L K N G [] E U M := .nil h
def yB (f : Bool) (T : TT) (o : Oper) : Bool := !f || isY (kd T o.op)
theorem QfL {f : Bool} {T : TT} {o : Oper} (h : yB f T o = true) : f = false ∨ isY (kd T o.op) = true := by
 cases f
 ·exact .inl rfl
 ·exact .inr (by simpa [yB] using h)
theorem sl_y {L : List Oper} {l : List Ent} {f : Bool} {i : Nat} {o : Oper} {d : Nat} {v : Value} (hy : Yl P N G o E U M v) (hk : yB f T o = true) (hd : o.dst = some d) (hN : Nat.blt d N = true) (hg : gok L E o.guard = some true)
  (h : SL P T L K N G l ((d, v) :: E) U M) : SL P T L K N G ((f, i, o) :: l) E U M :=
 .det ((QfL hk).imp id .inl) hd hN ⟨fun a w ha hm => .inl ⟨Je hg ha, hy.run a w ha hm⟩⟩ h
theorem QhP {L : List Oper} {l : List Ent} {f : Bool} {i : Nat} {o : Oper} {d : Nat} (hg : gok L E o.guard = some false) (hd : o.dst = some d) (hN : Nat.blt d N = true)
  (h : SL P T L K N G l ((d, undef) :: E) U M) : SL P T L K N G ((f, i, o) :: l) E U M :=
 .det (.inr (.inr hg)) hd hN ⟨fun _ _ ha _ => .inr ⟨Je hg ha, rfl⟩⟩ h
def gslot (L : List Oper) : Option (Nat × Bool) → Option Nat
 | some (j, _) => match nth L j with
  | some o => o.dst
  | none => none
 | none => none
theorem Qcv {t : Nat} {v : Value} (h : lk E t = some v) : Wk ((t, v) :: E) E := by
 intro u x hx
 by_cases e : t = u
 ·subst e; rw [Jo] at hx; cases hx; exact h
 ·rw [QS e] at hx; exact hx
theorem QdQ {L : List Oper} {l : List Ent} {f : Bool} {i : Nat} {o : Oper} {t : Nat} {b : Bool} (_hg : gslot L o.guard = some t) (hb : lk E t = some (.bool b))
  (ht : b = true → SL P T L K N G ((f, i, o) :: l) ((t, .bool true) :: E) U M) (hf : b = false → SL P T L K N G ((f, i, o) :: l) ((t, .bool false) :: E) U M) : SL P T L K N G ((f, i, o) :: l) E U M := by
 cases hb' : b
 ·subst hb'; exact (hf rfl).congr (Qcv hb) (List.Perm.refl _)
 ·subst hb'; exact (ht rfl).congr (Qcv hb) (List.Perm.refl _)
theorem Qv {L : List Oper} {l : List Ent} {f : Bool} {i : Nat} {o : Oper} {t : Nat} {p : Prop} {_ : Decidable p} (hg : gslot L o.guard = some t) (hb : lk E t = some (.bool (dec p)))
  (ht : p → SL P T L K N G ((f, i, o) :: l) ((t, .bool true) :: E) U M) (hf : ¬ p → SL P T L K N G ((f, i, o) :: l) ((t, .bool false) :: E) U M) : SL P T L K N G ((f, i, o) :: l) E U M :=
 QdQ hg hb (fun h => ht (QeG h)) (fun h => hf (yb h))
theorem Yk {o : Oper} {v : Value} (hS : Sym P T) (h : pureOp T E o.op = some v) : Yl P N G o E U M v :=
 ⟨fun _ w ha _ => QbA hS h ha w⟩
def one : TK → Bool
 | .struct _ => false
 | .other => false
 | _ => true
theorem qA {t : Nat} {i : TI} (h : TI.ok P t i) (hk : one i.k = true) (w : World) : (isAgg t).run P w = .ok false w := by
 obtain ⟨d, hd, hk'⟩ := h.und
 simp only [isAgg, Sem.run_bind, Qp hd, Result.andThen_ok]
 cases d <;> simp [kindOf] at hk' <;> simp [← hk', one] at hk <;> rfl
theorem Vb {t : Nat} {i : TI} {fs : List (Nat × Nat)} (h : TI.ok P t i) (hk : i.k = .struct fs) (w : World) : (isAgg t).run P w = .ok true w := by
 obtain ⟨d, hd, hk'⟩ := h.und
 rw [hk] at hk'
 obtain ⟨g, rfl, _⟩ := Ym hk'
 simp [isAgg, Qp hd]
theorem JS {t : Nat} {i : TI} (h : TI.ok P t i) (hk : one i.k = true) {w : World} {a : Addr} {v : Value} (hv : w.cell? a = some v) : (loadVar t a).run P w = .ok v w := by
 simp [loadVar, qA h hk, hv]
theorem JW {t : Nat} {i : TI} {fs : List (Nat × Nat)} (h : TI.ok P t i) (hk : i.k = .struct fs) {w : World} {a : Addr} {cs : List Value} (hn : cs.length = i.size) (hv : ∀ j v, cs[j]? = some v → w.cell? (a.add j) = some v) :
  (loadVar t a).run P w = .ok (.agg cs.toArray) w := by
 have := run_loadCells_list (P := P) (w := w) a cs hv
 simp only [loadVar, Sem.run_bind, Vb h hk, Result.andThen_ok, if_true, h.run_size, ← hn, this, Sem.run_pure]
theorem YG {o : Oper} {t : Nat} {x : Operand} {a : Addr} {v : Value} (ho : o.op = .load t x) (hx : ev E x = some (.pointer (some a)))
  (h : ∀ w, Mem G U M w → (loadVar t a).run P w = .ok v w) : Yl P N G o E U M v := by
 refine ⟨fun ac w ha hw => ?_⟩
 simp [execOp, ho, ha.eval hx, Instr.loadAt, Instr.sureAddr, h w hw]
def ldv (T : TT) (t : Nat) (v : Value) (off : Nat) : Option Value :=
 match lkT T t with
 | some ⟨.struct _, n, _, _⟩ => bif Nat.beq off 0 && Nat.beq n v.cells.toList.length then (match v with | .agg c => some (.agg c) | _ => none) else
   bif Nat.ble (off + n) v.cells.toList.length then some (.agg ((v.cells.toList.drop off).take n).toArray) else none
 | some ⟨.other, _, _, _⟩ => none
 | some _ => nth v.cells.toList off
 | none => none
theorem Ji (b o j : Nat) : (⟨b, o, none⟩ : Addr).add j = ⟨b, o + j, none⟩ := by
 unfold Addr.add; split <;> simp_all
theorem Qcc {t : Nat} {v r : Value} {off b tb : Nat} (hS : Sym P T) (h : ldv T t v off = some r) {w : World} (hb : w.heap[b]? = some (.cells v.cells tb (0, 0))) : (loadVar t ⟨b, off, none⟩).run P w = .ok r w := by
 have hcell : ∀ j, w.cell? ⟨b, j, none⟩ = v.cells[j]? := fun j => by simp [World.cell?, hb]
 unfold ldv at h
 split at h
 ·rename_i fs n _ _ hT
  by_cases h1 : (Nat.beq off 0 && Nat.beq n v.cells.toList.length) = true
  ·rw [h1] at h
   simp only [cond_true] at h
   split at h
   ·rename_i c
    simp only [Option.some.injEq] at h
    subst h
    simp only [Bool.and_eq_true] at h1
    have h2 := Nat.eq_of_beq_eq_true h1.1
    have h3 := Nat.eq_of_beq_eq_true h1.2
    subst h2
    have := JW (P := P) (hS.at hT) rfl (w := w) (a := ⟨b, 0, none⟩) (cs := c.toList) (by simpa [Value.cells] using h3.symm) (fun j u hu => by
     rw [Ji, hcell]; simpa [Value.cells] using hu)
    simpa using this
   ·cases h
  ·have h1' : (Nat.beq off 0 && Nat.beq n v.cells.toList.length) = false := Bool.eq_false_iff.2 h1
   rw [h1'] at h
   simp only [cond_false] at h
   by_cases h2 : Nat.ble (off + n) v.cells.toList.length = true
   ·rw [h2] at h
    simp only [cond_true, Option.some.injEq] at h
    subst h
    have h3 := Nat.le_of_ble_eq_true h2
    refine JW (hS.at hT) rfl (by rw [List.length_take, List.length_drop]; show min n _ = n; omega) (fun j u hu => ?_)
    rw [Ji, hcell]
    rw [List.getElem?_take] at hu
    split at hu
    ·rw [List.getElem?_drop] at hu
     simpa using hu
    ·cases hu
   ·have h2' : Nat.ble (off + n) v.cells.toList.length = false := Bool.eq_false_iff.2 h2
    rw [h2'] at h
    cases h
 ·cases h
 ·rename_i i hns hno hT
  rw [Jg] at h
  refine JS (hS.at hT) ?_ (by rw [hcell]; simpa using h)
  cases i with
  | mk k n b z => cases k <;> first | rfl | exact (hns _ _ _ _ rfl).elim | exact (hno _ _ _ rfl).elim
 ·cases h
theorem QdY {o : Oper} {t : Nat} {x : Operand} {b off tb : Nat} {v r : Value} (i : Nat) (hS : Sym P T) (ho : o.op = .load t x) (hx : ev E x = some (.pointer (some ⟨b, off, none⟩))) (hM : nth M i = some (b, .var v, tb))
  (hl : ldv T t v off = some r) : Yl P N G o E U M r := by
 rw [Jg] at hM
 exact YG ho hx fun w hw => Qcc hS hl (hw.own_at hM)
def elt (p : Option Addr) (k : Nat) : Addr := (p.getD default).add k
theorem Qg {o : Oper} {t e : Nat} {x ix : Operand} {p : Option Addr} {n c j : Nat} {iv : Int} {k : IntKind} {bt bt' bt'' : Nat} {sz : Nat} {z z' : Value} {ek : TK} (hS : Sym P T) (ho : o.op = .indexAddr t x ix) (hx : ev E x = some (.slice p n c)) (hi : ev E ix = some (.int k iv))
  (hT : lkT T t = some ⟨.slice e, bt, bt', z⟩) (he : lkT T e = some ⟨ek, sz, bt'', z'⟩) (hj : iv = (j : Int)) (hlt : j < n) (hp : p.isSome = true) : Yl P N G o E U M (.pointer (some (elt p (j * sz)))) := by
 refine ⟨fun a w ha hw => ?_⟩
 obtain ⟨d, hd, hk⟩ := (hS.at hT).und
 have := QT hk
 subst this
 obtain ⟨q, rfl⟩ := Option.isSome_iff_exists.1 hp
 have hsz := (hS.at he).run_size w
 subst hj
 have h1 : (0 : Int) ≤ (j : Int) ∧ (j : Int) < (n : Int) := by omega
 simp [execOp, ho, ha.eval hx, ha.eval hi, Instr.indexAt, asIntOf, Qp hd, hsz, h1, elt, hlt]
theorem Qn {o : Oper} {t e : Nat} {x ix : Operand} {p : Option Addr} {n c j : Nat} {iv : Int} {k : IntKind} {bt bt' bt'' : Nat} {z z' : Value} {ek : TK} (hS : Sym P T) (ho : o.op = .indexAddr t x ix) (hx : ev E x = some (.slice p n c)) (hi : ev E ix = some (.int k iv))
  (hT : lkT T t = some ⟨.slice e, bt, bt', z⟩) (he : lkT T e = some ⟨ek, 1, bt'', z'⟩) (hj : iv = (j : Int)) (hlt : j < n) (hp : p.isSome = true) : Yl P N G o E U M (.pointer (some (elt p j))) := by
 have := Qg (N := N) (G := G) (U := U) (M := M) hS ho hx hi hT he hj hlt hp
 simpa using this
theorem Qz {o : Oper} {t e : Nat} {x ix : Operand} {b off n c j : Nat} {iv : Int} {k : IntKind} {bt bt' bt'' : Nat} {sz : Nat} {z z' : Value} {ek : TK} (hS : Sym P T) (ho : o.op = .indexAddr t x ix) (hx : ev E x = some (.slice (some ⟨b, off, none⟩) n c)) (hi : ev E ix = some (.int k iv))
  (hT : lkT T t = some ⟨.slice e, bt, bt', z⟩) (he : lkT T e = some ⟨ek, sz, bt'', z'⟩) (hj : iv = (j : Int)) (hlt : j < n) : Yl P N G o E U M (.pointer (some ⟨b, off + j * sz, none⟩)) := by
 have := Qg (N := N) (G := G) (U := U) (M := M) hS ho hx hi hT he hj hlt rfl
 simpa [elt, Ji] using this
def ar (op : BinOp) (a b : Int) : Option Int :=
 match op with
 | .add => some (a + b)
 | .sub => some (a - b)
 | .mul => some (a * b)
 | _ => none
theorem Vt {o : Oper} {op : BinOp} {ty yt : Nat} {x y : Operand} {k : IntKind} {a b : Int} {v : Value} (ho : o.op = .binOp op ty x y yt) (hx : ev E x = some (.int k a)) (hy : ev E y = some (.int k b))
  (h : (binOp op ty (.int k a) (.int k b)).run P = fun w => .ok v w) : Yl P N G o E U M v := by
 refine ⟨fun ac w ha hw => ?_⟩
 simp only [execOp, ho]
 refine Ya ?_
 simp only [ha.eval hx, ha.eval hy, Sem.run_bind, YY, Result.andThen_ok, h]
theorem Qht {o : Oper} {op : BinOp} {ty yt : Nat} {x y : Operand} {a b r : Int} (ho : o.op = .binOp op ty x y yt) (hx : ev E x = some (.int .i64 a)) (hy : ev E y = some (.int .i64 b))
  (hr : ar op a b = some r) (h : -9223372036854775808 ≤ r ∧ r ≤ 9223372036854775807) : Yl P N G o E U M (.int .i64 r) := by
 refine Vt ho hx hy (funext fun w => ?_)
 rw [← IntWalk.i64_in r h]
 cases op <;> simp only [ar, Option.some.injEq, reduceCtorEq] at hr <;> subst hr <;> exact Vd rfl rfl
theorem QgS {o : Oper} {op : BinOp} {ty yt : Nat} {x y : Operand} {a b r : Int} (ho : o.op = .binOp op ty x y yt) (hx : ev E x = some (.int .u64 a)) (hy : ev E y = some (.int .u64 b))
  (hr : ar op a b = some r) (h : 0 ≤ r ∧ r ≤ 18446744073709551615) : Yl P N G o E U M (.int .u64 r) := by
 refine Vt ho hx hy (funext fun w => ?_)
 rw [← IntWalk.u64_in r h]
 cases op <;> simp only [ar, Option.some.injEq, reduceCtorEq] at hr <;> subst hr <;> exact Vd rfl rfl
theorem QhF {o : Oper} {op : BinOp} {ty yt : Nat} {x y : Operand} {a b r : Int} (ho : o.op = .binOp op ty x y yt) (hx : ev E x = some (.int .u32 a)) (hy : ev E y = some (.int .u32 b))
  (hr : ar op a b = some r) (h : 0 ≤ r ∧ r ≤ 4294967295) : Yl P N G o E U M (.int .u32 r) := by
 refine Vt ho hx hy (funext fun w => ?_)
 rw [← IntWalk.u32_in r h]
 cases op <;> simp only [ar, Option.some.injEq, reduceCtorEq] at hr <;> subst hr <;> exact Vd rfl rfl
def dr (op : BinOp) (a b : Int) : Option Int :=
 match op with
 | .quo => some (a / b)
 | .rem => some (a % b)
 | _ => none
def kmax : IntKind → Int
 | .i8 => 127 | .i16 => 32767 | .i32 => 2147483647 | .i64 => 9223372036854775807 | .u8 => 255 | .u16 => 65535 | .u32 => 4294967295 | .u64 => 18446744073709551615
theorem Jl {k : IntKind} {n : Int} (h0 : 0 ≤ n) (h1 : n ≤ kmax k) : k.wrap n = n := by
 cases k <;> simp only [kmax] at h1
 ·exact IntWalk.i8_in n (by omega)
 ·exact IntWalk.i16_in n (by omega)
 ·exact IntWalk.i32_in n (by omega)
 ·exact IntWalk.i64_in n (by omega)
 ·exact IntWalk.u8_in n (by omega)
 ·exact IntWalk.u16_in n (by omega)
 ·exact IntWalk.u32_in n (by omega)
 ·exact IntWalk.u64_in n (by omega)
theorem QeB {o : Oper} {op : BinOp} {ty yt : Nat} {x y : Operand} {k : IntKind} {a b r : Int} (ho : o.op = .binOp op ty x y yt) (hx : ev E x = some (.int k a)) (hy : ev E y = some (.int k b))
  (hr : dr op a b = some r) (h : 0 ≤ a ∧ a ≤ kmax k ∧ 0 < b) : Yl P N G o E U M (.int k r) := by
 refine Vt ho hx hy (funext fun w => ?_)
 have hb : b ≠ 0 := by omega
 have h1 := IntWalk.tdiv_le a b h.1 (by omega)
 cases op <;> simp only [dr, Option.some.injEq, reduceCtorEq] at hr <;> subst hr <;> simp only [binOp, ne_eq, not_true_eq_false, if_false, Op.intDiv, hb]
 ·rw [Int.tdiv_eq_ediv_of_nonneg h.1, Jl h1.1 (by omega)]; rfl
 ·rw [Int.tmod_eq_emod_of_nonneg h.1]; rfl
theorem VE {o : Oper} {ty yt : Nat} {x y : Operand} {k : IntKind} {a b : Int} {m n : Nat} (ho : o.op = .binOp .quo ty x y yt) (hx : ev E x = some (.int k a)) (hy : ev E y = some (.int k b)) (ha : a = (m : Int)) (hb : b = (n : Int))
  (hm : (m : Int) ≤ kmax k) (h : 0 < n) {q : Nat} (hq : m / n = q) : Yl P N G o E U M (.int k (q : Int)) := by
 subst ha hb hq
 exact QeB ho hx hy (by simp [dr]) ⟨by omega, hm, by omega⟩
theorem YW {o : Oper} {ty yt : Nat} {x y : Operand} {k : IntKind} {a b : Int} {m n : Nat} (ho : o.op = .binOp .rem ty x y yt) (hx : ev E x = some (.int k a)) (hy : ev E y = some (.int k b)) (ha : a = (m : Int)) (hb : b = (n : Int))
  (hm : (m : Int) ≤ kmax k) (h : 0 < n) {q : Nat} (hq : m % n = q) : Yl P N G o E U M (.int k (q : Int)) := by
 subst ha hb hq
 exact QeB ho hx hy (by simp [dr]) ⟨by omega, hm, by omega⟩
theorem QbB {o : Oper} {ty yt : Nat} {x y : Operand} {k k' : IntKind} {a b : Int} {n : Nat} (ho : o.op = .binOp .shr ty x y yt) (hx : ev E x = some (.int k a)) (hy : ev E y = some (.int k' b))
  (hb : b = (n : Int)) (h : n ≤ k.bits) : Yl P N G o E U M (.int k (a / 2 ^ n)) := by
 refine ⟨fun ac w ha hw => ?_⟩
 simp only [execOp, ho]
 refine Ya ?_
 subst hb
 have h1 : ¬ ((n : Int) < 0) := by omega
 have h2 : min n k.bits = n := Nat.min_eq_left h
 have h3 : (0 : Int) ≤ 2 ^ n := Int.pow_nonneg (by omega)
 simp only [ha.eval hx, ha.eval hy, Sem.run_bind, YY, Result.andThen_ok, binOp, Op.shift, h1, if_false, Int.toNat_natCast, h2, Sem.run_pure, Int.fdiv_eq_ediv_of_nonneg _ h3]
theorem QbR {o : Oper} {ty yt : Nat} {x y : Operand} {k k' : IntKind} {a b : Int} {n : Nat} (ho : o.op = .binOp .shl ty x y yt) (hx : ev E x = some (.int k a)) (hy : ev E y = some (.int k' b))
  (hb : b = (n : Int)) (h : n ≤ k.bits) : Yl P N G o E U M (.int k (k.wrap (a * 2 ^ n))) := by
 refine ⟨fun ac w ha hw => ?_⟩
 simp only [execOp, ho]
 refine Ya ?_
 subst hb
 have h1 : ¬ ((n : Int) < 0) := by omega
 have h2 : min n k.bits = n := Nat.min_eq_left h
 simp only [ha.eval hx, ha.eval hy, Sem.run_bind, YY, Result.andThen_ok, binOp, Op.shift, h1, if_false, Int.toNat_natCast, h2, Sem.run_pure]
theorem QgG {o : Oper} {s d : Nat} {x : Operand} {k k' : IntKind} {n : Int} {i : TI} {b c : Nat} {z : Value} (hS : Sym P T) (ho : o.op = .convert s d x) (hx : ev E x = some (.int k n)) (hs : lkT T s = some i) (hd : lkT T d = some ⟨.int k', b, c, z⟩)
  (h0 : 0 ≤ n) (h1 : n ≤ kmax k') : Yl P N G o E U M (.int k' n) := by
 have h := Yk (N := N) (G := G) (U := U) (M := M) (o := o) (E := E) (v := .int k' (k'.wrap n)) hS (by simp only [ho, pureOp, hx, hs, hd])
 rwa [Jl h0 h1] at h
theorem Qdy {o : Oper} {s d : Nat} {x : Operand} {k : IntKind} {n : Int} {i : TI} {b c : Nat} {z : Value} (hS : Sym P T) (ho : o.op = .convert s d x) (hx : ev E x = some (.int k n)) (hs : lkT T s = some i) (hd : lkT T d = some ⟨.int .u32, b, c, z⟩) : Yl P N G o E U M (.int .u32 (n % 4294967296)) := by
 have h := Yk (N := N) (G := G) (U := U) (M := M) (o := o) (E := E) (v := .int .u32 (IntKind.u32.wrap n)) hS (by simp only [ho, pureOp, hx, hs, hd])
 rwa [IntKind.wrap_u32] at h
theorem Qaf {o : Oper} {op : BinOp} {ty yt : Nat} {x y : Operand} {k : IntKind} {a b : Int} {v : Value} (ho : o.op = .binOp op ty x y yt) (hx : ev E x = some (.int k a)) (hy : ev E y = some (.int k b))
  (h : bitOp op k a b = some v) : Yl P N G o E U M v := Vt ho hx hy (funext fun _ => Qdd h)
theorem QhC {o : Oper} {ty : Nat} {x : Operand} {k : IntKind} {n : Int} (ho : o.op = .unOp .xor ty x) (hx : ev E x = some (.int k n)) :
  Yl P N G o E U M (.int k (k.wrap (BitVec.ofInt k.bits (if k.signed then -1 else k.max) ^^^ BitVec.ofInt k.bits n).toNat)) := by
 refine ⟨fun ac w ha hw => ?_⟩
 simp [execOp, ho, ha.eval hx, Op.unary, Op.intBits]
theorem jR {o : Oper} {ty yt : Nat} {x y : Operand} {a b : Int} {m n : Nat} (ho : o.op = .binOp .or ty x y yt) (hx : ev E x = some (.int .u64 a)) (hy : ev E y = some (.int .u64 b)) (ha : a = (m : Int) * 4294967296) (hb : b = (n : Int)) (hm : m < 4294967296) (hn : n < 4294967296) :
  Yl P N G o E U M (.int .u64 ((m * 4294967296 + n : Nat) : Int)) := by
 refine Vt ho hx hy (funext fun w => ?_)
 subst ha hb
 have h1 : (BitVec.ofInt 64 ((m : Int) * 4294967296) ||| BitVec.ofInt 64 (n : Int)).toNat = m * 4294967296 + n := by
  have e : ((m : Int) * 4294967296) = ((m * 4294967296 : Nat) : Int) := by omega
  rw [e, BitVec.ofInt_natCast, BitVec.ofInt_natCast, BitVec.toNat_or, BitVec.toNat_ofNat, BitVec.toNat_ofNat, Nat.mod_eq_of_lt (by omega), Nat.mod_eq_of_lt (by omega)]
  have := Nat.shiftLeft_add_eq_or_of_lt (i := 32) (b := n) (by omega) m
  rw [Nat.shiftLeft_eq] at this
  exact this.symm
 simp only [binOp, ne_eq, not_true_eq_false, if_false, Op.intBits, IntKind.bits]
 show Result.ok (Value.int .u64 (IntKind.u64.wrap (((BitVec.ofInt 64 ((m : Int) * 4294967296) ||| BitVec.ofInt 64 (n : Int)).toNat : Nat) : Int))) w = _
 rw [h1, IntWalk.u64_in _ (by omega)]
theorem wrap_u64 (n : Int) : IntKind.u64.wrap n = n % 18446744073709551616 := by
 simp [IntKind.wrap, IntKind.bits, IntKind.signed]
theorem qM {o : Oper} {t e : Nat} {x : Operand} {lo hi : Option Operand} {p : Option Addr} {n c l h bt bt' bt'' sz : Nat} {z z' : Value} {ek : TK} (hS : Sym P T) (ho : o.op = .slice t x lo hi none) (hx : ev E x = some (.slice p n c))
  (hT : lkT T t = some ⟨.slice e, bt, bt', z⟩) (he : lkT T e = some ⟨ek, sz, bt'', z'⟩)
  (hlo : (lo = none ∧ l = 0) ∨ ∃ y k iv, lo = some y ∧ ev E y = some (.int k iv) ∧ iv = (l : Int)) (hhi : (hi = none ∧ h = n) ∨ ∃ y k iv, hi = some y ∧ ev E y = some (.int k iv) ∧ iv = (h : Int))
  (h1 : l ≤ h) (h2 : h ≤ c) : Yl P N G o E U M (.slice (if c = l then p else p.map (·.add (l * sz))) (h - l) (c - l)) := by
 refine ⟨fun a w ha hw => ?_⟩
 obtain ⟨d, hd, hk⟩ := (hS.at hT).und
 have := QT hk
 subst this
 have hsz := (hS.at he).run_size w
 have g1 : (0 : Int) ≤ (l : Int) ∧ (l : Int) ≤ (h : Int) := by omega
 have g2 : (0 : Int) ≤ (h : Int) ∧ (h : Int) ≤ (c : Int) := by omega
 rcases hlo with ⟨rfl, rfl⟩ | ⟨y, k, iv, rfl, hy, rfl⟩ <;> rcases hhi with ⟨rfl, rfl⟩ | ⟨y', k', iv', rfl, hy', rfl⟩
 ·simp [execOp, ho, ha.eval hx, Instr.sliceAt, Instr.slice, Instr.sliceBounds, Qp hd, hsz]
 ·simp [execOp, ho, ha.eval hx, ha.eval hy', Instr.sliceAt, Instr.slice, Instr.sliceBounds, Instr.sliceBound, asIntOf, Qp hd, hsz, g2, h2]
 ·simp [execOp, ho, ha.eval hx, ha.eval hy, Instr.sliceAt, Instr.slice, Instr.sliceBounds, Instr.sliceBound, asIntOf, Qp hd, hsz, g1, h1]
 ·simp [execOp, ho, ha.eval hx, ha.eval hy, ha.eval hy', Instr.sliceAt, Instr.slice, Instr.sliceBounds, Instr.sliceBound, asIntOf, Qp hd, hsz, g1, g2, h1, h2]
theorem vR (p : Option Addr) : p.map (·.add 0) = p := by cases p <;> simp [Addr.add]
theorem VC {o : Oper} {t e : Nat} {x y : Operand} {p : Option Addr} {n c h bt bt' bt'' sz : Nat} {z z' : Value} {ek : TK} {k : IntKind} {iv : Int} (hS : Sym P T) (ho : o.op = .slice t x none (some y) none) (hx : ev E x = some (.slice p n c)) (hy : ev E y = some (.int k iv))
  (hT : lkT T t = some ⟨.slice e, bt, bt', z⟩) (he : lkT T e = some ⟨ek, sz, bt'', z'⟩) (hh : iv = (h : Int)) (h2 : h ≤ c) : Yl P N G o E U M (.slice p h c) := by
 have := qM (N := N) (G := G) (U := U) (M := M) hS ho hx hT he (.inl ⟨rfl, rfl⟩) (.inr ⟨y, k, iv, rfl, hy, hh⟩) (Nat.zero_le h) h2
 simpa [vR] using this
end Go.Hp

/- The rules with which the functions are walked, fourth part: what makes and writes memory; calls; returns. Program in general; no condition. -/
namespace Go.Hp
variable {P : Program} {T : TT} {K : Kont} {N : Nat} {G : World} {E : Env} {U : UH} {M : MH} {L : List Oper} {l : List Ent} {f : Bool} {i : Nat} {o : Oper}
def xB (f : Bool) (T : TT) (o : Oper) : Bool := !f || isX (kd T o.op)
theorem Qcg {f : Bool} {T : TT} {o : Oper} (h : xB f T o = true) : f = false ∨ isX (kd T o.op) = true := by
 cases f
 ·exact .inl rfl
 ·exact .inr (by simpa [xB] using h)
def cB (f : Bool) (T : TT) (o : Oper) : Bool := !f || isC (kd T o.op)
theorem QcE {f : Bool} {T : TT} {o : Oper} (h : cB f T o = true) : f = false ∨ isC (kd T o.op) = true := by
 cases f
 ·exact .inl rfl
 ·exact .inr (by simpa [cB] using h)
theorem QeD {d : Nat} {R : Value → UH → MH → Prop} (hg : gok L E o.guard = some true) (hk : xB f T o = true) (hd : o.dst = some d) (hN : Nat.blt d N = true)
  (hy : ∀ a w, Has a N E → Mem G U M w → ∃ v w' U' M', (execOp a.eval o).run P w = .ok (.value v) w' ∧ Mem G U' M' w' ∧ R v U' M')
  (h : ∀ v U' M', R v U' M' → SL P T L K N G l ((d, v) :: E) U' M') : SL P T L K N G ((f, i, o) :: l) E U M := by
 refine .x (R := R) (Qcg hk) (fun e he => by rw [hd] at he; cases he; exact hN) (fun a w ha hm => ?_) (fun v U' M' hR => ?_)
 ·obtain ⟨v, w', U', M', hr, hm', hR⟩ := hy a w ha hm
  unfold wpV
  rw [Je hg ha, if_pos rfl, hr]
  exact ⟨U', M', hm', hR⟩
 ·rw [hd]; exact h v U' M' hR
theorem Qac {U' : UH} {M' : MH} (hg : gok L E o.guard = some true) (hk : xB f T o = true) (hd : o.dst = none)
  (hy : ∀ a w, Has a N E → Mem G U M w → ∃ w', (execOp a.eval o).run P w = .ok .skip w' ∧ Mem G U' M' w')
  (h : SL P T L K N G l E U' M') : SL P T L K N G ((f, i, o) :: l) E U M := by
 refine .x (R := fun _ U1 M1 => U1 = U' ∧ M1 = M') (Qcg hk) (fun e he => by rw [hd] at he; cases he) (fun a w ha hm => ?_) (fun v U1 M1 hR => ?_)
 ·obtain ⟨w', hr, hm'⟩ := hy a w ha hm
  unfold wpV
  rw [Je hg ha, if_pos rfl, hr]
  exact ⟨U', M', hm', rfl, rfl⟩
 ·rw [hd]; obtain ⟨rfl, rfl⟩ := hR; exact h
theorem QeA {d : Nat} {R : Value → UH → MH → Prop} (hg : gok L E o.guard = some true) (hk : cB f T o = true) (hd : o.dst = some d) (hN : Nat.blt d N = true)
  (hy : ∀ M a w, Has a N E → Mem G U M w → ∃ v w' U' D, (execOp a.eval o).run P w = .ok (.value v) w' ∧ ULe U U' ∧ Mem G U' (D ++ M) w' ∧ R v U' D)
  (h : ∀ v U' D, ULe U U' → R v U' D → SL P T L K N G l ((d, v) :: E) U' (D ++ M)) : SL P T L K N G ((f, i, o) :: l) E U M := by
 refine .gr (R := R) (QcE hk) hd hN (fun M2 a w ha hm => ?_) h
 obtain ⟨v, w', U', D, hr, h1, hm', hR⟩ := hy _ a w ha hm
 unfold wpV
 rw [Je hg ha, if_pos rfl, hr]
 exact ⟨U', D, h1, hm', hR⟩
theorem QgW {d t : Nat} {x : Operand} {v : Value} (ho : o.op = .box t x) (hx : ev E x = some v) (hg : gok L E o.guard = some true) (hk : cB f T o = true) (hd : o.dst = some d) (hN : Nat.blt d N = true)
  (h : ∀ b, SL P T L K N G l ((d, .pointer (some ⟨b, 0, none⟩)) :: E) U ((b, .var v, t) :: M)) : SL P T L K N G ((f, i, o) :: l) E U M :=
 QeA (R := fun r U' D => ∃ b, r = .pointer (some ⟨b, 0, none⟩) ∧ U' = U ∧ D = [(b, .var v, t)]) hg hk hd hN
  (fun M a w ha hw => ⟨_, _, _, _, by simp [execOp, ho, ha.eval hx, Instr.box, newVar, newRow]; rfl, ULe.refl _, hw.alloc (.var v) t, _, rfl, rfl, rfl⟩)
  (fun _ _ _ _ ⟨b, h1, h2, h3⟩ => by subst h1 h2 h3; exact h b)
theorem Qew {d t : Nat} {k : TK} {sz by' : Nat} {z : Value} (hS : Sym P T) (ho : o.op = .alloc t) (hT : lkT T t = some ⟨k, sz, by', z⟩) (hg : gok L E o.guard = some true) (hd : o.dst = some d) (hN : Nat.blt d N = true)
  (h : ∀ b, SL P T L K N G l ((d, .pointer (some ⟨b, 0, none⟩)) :: E) U ((b, .var z, t) :: M)) : SL P T L K N G ((f, i, o) :: l) E U M :=
 .al ho hg (fun w => (hS.at hT).run_zero w) hd hN h
theorem yH (e : TypeId) (cs : Array Value) (w : World) : (newRow e cs).run P w = .ok ⟨w.heap.size, 0, none⟩ (w.alloc (.cells cs e)) := by
 simp [newRow]
theorem jk {z : Value} {s : Nat} (hs : z.cells.toList.length = s) (h0 : 0 < s) : ∀ n, madeCells z.cells (n * s) = (Blk.arr (List.replicate n z)).cells
 | 0 => by simp [madeCells, Blk.cells]
 | n + 1 => by
  have ih := jk hs h0 n
  have e : (n + 1) * s = s + n * s := by rw [Nat.add_mul]; omega
  simp only [Blk.cells] at ih ⊢
  have hz : z.cells.size = s := by simpa using hs
  apply Array.ext'
  have ih' := congrArg Array.toList ih
  rw [List.replicate_succ, List.flatMap_cons]
  simp only [madeCells, Array.toList_map, Array.toList_range] at ih' ⊢
  rw [e, List.range_add, List.map_append]
  congr 1
  ·apply List.ext_getElem
   ·simp [hz]
   ·intro i h1 h2
    simp only [List.length_map, List.length_range] at h1
    have h3 : i < z.cells.size := by omega
    simp [hz, Nat.mod_eq_of_lt h1, getElem!_pos z.cells i h3]
  ·rw [← ih', List.map_map]
   apply List.map_congr_left
   intro i _
   simp [hz]
theorem QM {d t e : Nat} {x y : Operand} {kx ky : IntKind} {m n s bt bt' bs : Nat} {im jn : Int} {z z' : Value} {ek : TK} (hS : Sym P T) (ho : o.op = .makeSlice t x y) (hx : ev E x = some (.int kx im)) (hy : ev E y = some (.int ky jn)) (hT : lkT T t = some ⟨.slice e, bt, bt', z'⟩) (he : lkT T e = some ⟨ek, s, bs, z⟩)
  (hm : im = (m : Int)) (hn : jn = (n : Int)) (hs : z.cells.toList.length = s) (h0 : Nat.blt 0 s = true) (hmn : m ≤ n) (hb : bs * n ≤ 281474976710656) (hl : n ≤ 9223372036854775807)
  (hg : gok L E o.guard = some true) (hk : cB f T o = true) (hd : o.dst = some d) (hN : Nat.blt d N = true)
  (h : ∀ b, SL P T L K N G l ((d, .slice (some ⟨b, 0, none⟩) m n) :: E) U ((b, .arr (List.replicate n z), e) :: M)) : SL P T L K N G ((f, i, o) :: l) E U M := by
 refine QeA (R := fun r U' D => ∃ b, r = .slice (some ⟨b, 0, none⟩) m n ∧ U' = U ∧ D = [(b, .arr (List.replicate n z), e)]) hg hk hd hN
  (fun M a w ha hw => ?_) (fun _ _ _ _ ⟨b, h1, h2, h3⟩ => by subst h1 h2 h3; exact h b)
 obtain ⟨dd, hdd, hkk⟩ := (hS.at hT).und
 have := QT hkk
 subst this
 obtain ⟨inf, _, hi, hz, hsz, hby⟩ := (hS.at he).run_info w
 subst hm hn
 have hby' : inf.bytes = bs := hby
 have hb' : (inf.bytes : Int) * (n : Int) ≤ 281474976710656 := by
  have h : ((inf.bytes * n : Nat) : Int) ≤ 281474976710656 := by rw [hby']; omega
  rwa [Int.natCast_mul] at h
 have hr := run_make (P := P) w t e inf z hdd hi hz kx ky (m : Int) (n : Int) (by omega) (by omega) hb' (by omega)
 simp only [Int.toNat_natCast, hsz] at hr
 rw [jk hs (Nat.le_of_ble_eq_true h0)] at hr
 refine ⟨_, _, _, _, ?_, ULe.refl _, hw.alloc (.arr (List.replicate n z)) e, _, rfl, rfl, rfl⟩
 simp only [execOp, ho, ha.eval hx, ha.eval hy, Sem.run_bind, hr, Result.andThen_ok, Sem.run_pure]
theorem Mem.setRow {w : World} (h : Mem G U M w) {i b t : Nat} {k k' : Blk} (hi : M[i]? = some (b, k, t)) {cs : Array Value} (hcs : cs = k'.cells) : Mem G U (M.set i (b, k', t)) (w.setRow b cs) := by
 subst hcs
 refine h.setBlk hi k' rfl rfl rfl (setRow_heap w b _ _ _ _ (h.own_at hi)) (fun j hj => ?_)
 exact setRow_other w b j _ hj
theorem Yv {w : World} {t b off tb : Nat} {ti : TI} {cur : Array Value} {v : Value} (hT : TI.ok P t ti) (hb : w.heap[b]? = some (.cells cur tb (0, 0))) (hv : v.cells.toList.length = ti.size)
  (h1 : v.cells.toList.all Value.oneCell' = true) (hfit : off + ti.size ≤ cur.size) :
  (storeVar t ⟨b, off, none⟩ v).run P w = .ok () (w.setRow b (cur.toList.take off ++ v.cells.toList ++ cur.toList.drop (off + ti.size)).toArray) := by
 have hsz := hT.run_size w
 have hst := run_storeCells_at P b off tb v.cells.toList 0 cur w hb (by rw [hv]; omega) (fun u hu => (List.all_eq_true.1 h1) u hu)
 simp only [Nat.add_zero, hv] at hst
 have hv' : v.cells.size = ti.size := by simpa using hv
 simp only [storeVar, Sem.run_bind, hsz, Result.andThen_ok, hv', ne_eq, not_true_eq_false, if_false]
 exact hst
theorem QeV {t b tb : Nat} {x y : Operand} {v old : Value} {ti : TI} (m : Nat) (hS : Sym P T) (ho : o.op = .store t x y) (hx : ev E x = some (.pointer (some ⟨b, 0, none⟩))) (hy : ev E y = some v)
  (hM : nth M m = some (b, .var old, tb)) (hT : lkT T t = some ti) (hv : v.cells.toList.length = ti.size) (hold : old.cells.toList.length = ti.size) (h1 : v.cells.toList.all Value.oneCell' = true)
  (hg : gok L E o.guard = some true) (hk : xB f T o = true) (hd : o.dst = none) (h : SL P T L K N G l E U (M.set m (b, .var v, tb))) : SL P T L K N G ((f, i, o) :: l) E U M := by
 rw [Jg] at hM
 refine Qac hg hk hd (fun a w ha hw => ?_) h
 have hb := hw.own_at hM
 have hrun := Yv (off := 0) (hS.at hT) hb hv h1 (by simp only [Blk.cells]; simp at hold; omega)
 refine ⟨_, ?_, hw.setRow hM (k' := .var v) (cs := ((Blk.var old).cells.toList.take 0 ++ v.cells.toList ++ (Blk.var old).cells.toList.drop (0 + ti.size)).toArray) ?_⟩
 ·simp only [execOp, ho, ha.eval hx, ha.eval hy, Instr.storeAt, Instr.sureAddr, pure_bind, Sem.run_bind, hrun, Result.andThen_ok, Sem.run_pure]
 ·have : (Blk.var old).cells.toList.drop (0 + ti.size) = [] := by
   apply List.drop_eq_nil_of_le; simp only [Blk.cells]; omega
  rw [this]; simp [Blk.cells]
theorem qf {t b off tb : Nat} {x y : Operand} {v : Value} {c : Array Value} {ti : TI} (m : Nat) (hS : Sym P T) (ho : o.op = .store t x y) (hx : ev E x = some (.pointer (some ⟨b, off, none⟩))) (hy : ev E y = some v)
  (hM : nth M m = some (b, .var (.agg c), tb)) (hT : lkT T t = some ti) (hv : v.cells.toList.length = ti.size) (hold : Nat.ble (off + ti.size) c.toList.length = true) (h1 : v.cells.toList.all Value.oneCell' = true)
  (hg : gok L E o.guard = some true) (hk : xB f T o = true) (hd : o.dst = none) (h : SL P T L K N G l E U (M.set m (b, .var (.agg (setSeg c.toList off v.cells.toList).toArray), tb))) : SL P T L K N G ((f, i, o) :: l) E U M := by
 rw [Jg] at hM
 refine Qac hg hk hd (fun a w ha hw => ?_) h
 have hb := hw.own_at hM
 have hold' := Nat.le_of_ble_eq_true hold
 have hrun := Yv (off := off) (hS.at hT) hb hv h1 (by simp only [Blk.cells, Value.cells]; simpa using hold')
 refine ⟨_, ?_, hw.setRow hM (k' := .var (.agg (setSeg c.toList off v.cells.toList).toArray)) (cs := ((Blk.var (.agg c)).cells.toList.take off ++ v.cells.toList ++ (Blk.var (.agg c)).cells.toList.drop (off + ti.size)).toArray) ?_⟩
 ·simp only [execOp, ho, ha.eval hx, ha.eval hy, Instr.storeAt, Instr.sureAddr, pure_bind, Sem.run_bind, hrun, Result.andThen_ok, Sem.run_pure]
 ·have e1 : (Blk.var (.agg c)).cells = c := rfl
  have e2 : ∀ x, (Blk.var (.agg x)).cells = x := fun _ => rfl
  rw [e1, e2, setSeg, hv]
theorem Jm {s : Nat} : ∀ {l : List Value}, (∀ v ∈ l, v.cells.toList.length = s) → (l.flatMap fun v => v.cells.toList).length = l.length * s
 | [], _ => by simp
 | v :: l, h => by
  rw [List.flatMap_cons, List.length_append, Jm (fun u hu => h u (List.mem_cons_of_mem _ hu)), h v (List.mem_cons_self ..), List.length_cons, Nat.add_mul]
  omega
theorem Vl {s : Nat} : ∀ {l : List Value} (j : Nat), (∀ v ∈ l, v.cells.toList.length = s) → (l.flatMap fun v => v.cells.toList).take (j * s) = (l.take j).flatMap fun v => v.cells.toList
 | [], j, _ => by simp
 | v :: l, 0, _ => by simp
 | v :: l, j + 1, h => by
  have h0 := h v (List.mem_cons_self ..)
  rw [List.flatMap_cons, List.take_succ_cons, List.flatMap_cons, List.take_append, h0, List.take_of_length_le (by rw [h0, Nat.add_mul]; omega)]
  have : (j + 1) * s - s = j * s := by rw [Nat.add_mul]; omega
  rw [this, Vl j (fun u hu => h u (List.mem_cons_of_mem _ hu))]
theorem Vj {s : Nat} : ∀ {l : List Value} (j : Nat), (∀ v ∈ l, v.cells.toList.length = s) → (l.flatMap fun v => v.cells.toList).drop (j * s) = (l.drop j).flatMap fun v => v.cells.toList
 | [], j, _ => by simp
 | v :: l, 0, _ => by simp
 | v :: l, j + 1, h => by
  have h0 := h v (List.mem_cons_self ..)
  rw [List.flatMap_cons, List.drop_succ_cons, List.drop_append, h0, List.drop_eq_nil_of_le (by rw [h0, Nat.add_mul]; omega)]
  have : (j + 1) * s - s = j * s := by rw [Nat.add_mul]; omega
  rw [this, Vj j (fun u hu => h u (List.mem_cons_of_mem _ hu))]; simp
theorem Qef {s : Nat} {l : List Value} {j : Nat} {v : Value} (h : ∀ u ∈ l, u.cells.toList.length = s) (_hv : v.cells.toList.length = s) (hj : j < l.length) :
  (l.flatMap fun u => u.cells.toList).take (j * s) ++ v.cells.toList ++ (l.flatMap fun u => u.cells.toList).drop (j * s + s) = (l.set j v).flatMap fun u => u.cells.toList := by
 have e : j * s + s = (j + 1) * s := by rw [Nat.add_mul]; omega
 rw [e, Vl j h, Vj (j + 1) h, List.set_eq_take_append_cons_drop, if_pos hj, List.flatMap_append, List.flatMap_cons, List.append_assoc]
theorem jh {t b j s tb off : Nat} {x y : Operand} {v : Value} {r : List Value} {ti : TI} (m : Nat) (hS : Sym P T) (ho : o.op = .store t x y) (hx : ev E x = some (.pointer (some ⟨b, off, none⟩))) (hy : ev E y = some v)
  (hM : nth M m = some (b, .arr r, tb)) (hT : lkT T t = some ti) (hs : ti.size = s) (hoff : off = j * s) (hr : ∀ u ∈ r, u.cells.toList.length = s) (hv : v.cells.toList.length = s) (hj : j < r.length) (h1 : v.cells.toList.all Value.oneCell' = true)
  (hg : gok L E o.guard = some true) (hk : xB f T o = true) (hd : o.dst = none) (h : SL P T L K N G l E U (M.set m (b, .arr (r.set j v), tb))) : SL P T L K N G ((f, i, o) :: l) E U M := by
 rw [Jg] at hM
 refine Qac hg hk hd (fun a w ha hw => ?_) h
 have hb := hw.own_at hM
 have hlen := Jm hr
 have hfit : j * s + s ≤ r.length * s := by
  have : (j + 1) * s ≤ r.length * s := Nat.mul_le_mul_right _ hj
  rw [Nat.add_mul] at this; omega
 subst hoff
 have hrun := Yv (off := j * s) (hS.at hT) hb (by rw [hv, hs]) h1 (by simp only [Blk.cells, List.size_toArray]; rw [hlen, hs]; exact hfit)
 refine ⟨_, ?_, hw.setRow hM (k' := .arr (r.set j v)) (cs := ((Blk.arr r).cells.toList.take (j * s) ++ v.cells.toList ++ (Blk.arr r).cells.toList.drop (j * s + ti.size)).toArray) ?_⟩
 ·simp only [execOp, ho, ha.eval hx, ha.eval hy, Instr.storeAt, Instr.sureAddr, pure_bind, Sem.run_bind, hrun, Result.andThen_ok, Sem.run_pure]
 ·simp only [Blk.cells, hs]
  exact congrArg List.toArray (Qef hr hv hj)
theorem yo {s : Nat} {l : List Value} {j k : Nat} {v : Value} (h : ∀ u ∈ l, u.cells.toList.length = s) (hj : l[j]? = some v) (hk : k < s) :
  (l.flatMap fun u => u.cells.toList)[j * s + k]? = v.cells.toList[k]? := by
 have h1 := Vj j h
 have h2 : (l.flatMap fun u => u.cells.toList)[j * s + k]? = ((l.flatMap fun u => u.cells.toList).drop (j * s))[k]? := by rw [List.getElem?_drop]
 rw [h2, h1]
 obtain ⟨hl, he⟩ := List.getElem?_eq_some_iff.1 hj
 rw [List.drop_eq_getElem_cons hl, he, List.flatMap_cons, List.getElem?_append_left (by rw [h v (List.mem_of_getElem? hj)]; exact hk)]
theorem Qdg {t b j tb : Nat} {x : Operand} {v : Value} {r : List Value} {ti : TI} (i : Nat) (hS : Sym P T) (ho : o.op = .load t x) (hx : ev E x = some (.pointer (some ⟨b, 0 + j * 1, none⟩)))
  (hM : nth M i = some (b, .arr r, tb)) (hT : lkT T t = some ti) (hk : one ti.k = true) (hr : ∀ u ∈ r, u.cells.toList.length = 1) (hv : r[j]? = some v) (hvc : v.cells = #[v]) : Yl P N G o E U M v := by
 rw [Jg] at hM
 refine YG ho hx fun w hw => JS (hS.at hT) hk ?_
 rw [hw.cellM hM]
 have := yo (k := 0) hr hv (by omega)
 simp only [Blk.cells, List.getElem?_toArray]
 simpa [hvc] using this
def callable (P : Program) (f : Nat) : Bool :=
 match P.funcs[f]? with
 | some fn => !(fn.name == "runtime.NumGoroutine") && fn.body.isSome
 | none => false
structure Ct (P : Program) (f : Nat) (args : List Value) (G : World) (U : UH) (M : MH) (R : Value → UH → MH → Prop) : Prop where
 callable : callable P f = true
 calls : ∀ w, Mem G U M w → Calls P f args.toArray w fun e w' => ∃ v U' D, e = .returned v ∧ ULe U U' ∧ Mem G U' (D ++ M) w' ∧ R v U' D
theorem Ct.mono {f : Nat} {args : List Value} {R R' : Value → UH → MH → Prop} (h : Ct P f args G U M R) (hr : ∀ v U' D, ULe U U' → R v U' D → R' v U' D) : Ct P f args G U M R' :=
 ⟨h.callable, fun w hw => (h.calls w hw).mono fun _ _ ⟨v, U', D, h1, h2, h3, h4⟩ => ⟨v, U', D, h1, h2, h3, hr _ _ _ h2 h4⟩⟩
theorem qX {f : Nat} (h : callable P f = true) (args : Array Value) (w : World) : (callFunc f args).run P w = .ok (.enter f args) w := by
 unfold Hp.callable at h
 split at h
 ·rename_i fn hf
  simp only [Bool.and_eq_true, Bool.not_eq_true', beq_eq_false_iff_ne, ne_eq] at h
  have h2 : fn.body.isNone = false := by
   have := h.2
   cases hb : fn.body <;> simp [hb] at this ⊢
  have h3 : (fn.name == "runtime.NumGoroutine") = false := by simpa using h.1
  simp only [callFunc, Sem.run_bind, run_program, Result.andThen_ok, hf, h3, h2, Bool.false_eq_true, if_false, Sem.run_pure]
 ·cases h
theorem QaY {c : Nat} {args : List Operand} {tys : Array TypeId} {vs : List Value} (ho : o.op = .call { callee := .value (.func c), args := args.toArray, argTypes := tys })
  (hv : evs E args = some vs) (hc : callable P c = true) {a : Act} (ha : Has a N E) (w : World) : (execOp a.eval o).run P w = .ok (.enter c vs.toArray) w := by
 have := qX hc vs.toArray w
 simp only [execOp, ho, resolve, List.map_toArray, ha.evals hv, Act.eval, Deferred.ofValue, Sem.run_bind, Sem.run_pure, Result.andThen_ok, invoke]
 simpa using this
theorem Qd {d c : Nat} {args : List Operand} {tys : Array TypeId} {vs : List Value} {R : Value → UH → MH → Prop} (ho : o.op = .call { callee := .value (.func c), args := args.toArray, argTypes := tys })
  (hv : evs E args = some vs) (hk : cB f T o = true) (hd : o.dst = some d) (hN : Nat.blt d N = true) (hg : gok L E o.guard = some true) (hc : ∀ M2, Ct P c vs G U (M2 ++ M) R)
  (h : ∀ v U' D, ULe U U' → R v U' D → SL P T L K N G l ((d, v) :: E) U' (D ++ M)) : SL P T L K N G ((f, i, o) :: l) E U M := by
 refine .gr (R := R) (QcE hk) hd hN (fun M2 a w ha hm => ?_) h
 unfold wpV
 rw [Je hg ha, if_pos rfl, QaY ho hv (hc []).callable ha w]
 refine ((hc M2).calls w hm).mono ?_
 rintro e w' ⟨v, U', D, rfl, h1, h2, h3⟩
 exact ⟨v, rfl, U', D, h1, h2, h3⟩
theorem Qeg {d c : Nat} {args : List Operand} {tys : Array TypeId} {vs : List Value} {R : Value → UH → MH → Prop} (ho : o.op = .call { callee := .value (.func c), args := args.toArray, argTypes := tys })
  (hv : evs E args = some vs) (hk : f = false) (hd : o.dst = some d) (hN : Nat.blt d N = true) (hg : gok L E o.guard = some true) (hcb : callable P c = true)
  (hc : ∀ w, Mem G U M w → Calls P c vs.toArray w fun e w' => ∃ v U' M', e = .returned v ∧ ULe U U' ∧ Mem G U' M' w' ∧ R v U' M')
  (h : ∀ v U' M', ULe U U' → R v U' M' → SL P T L K N G l ((d, v) :: E) U' M') : SL P T L K N G ((f, i, o) :: l) E U M := by
 refine .x (R := fun v U' M' => ULe U U' ∧ R v U' M') (.inl hk) (fun e he => by rw [hd] at he; cases he; exact hN) (fun a w ha hm => ?_) (fun v U' M' hR => ?_)
 ·unfold wpV
  rw [Je hg ha, if_pos rfl, QaY ho hv hcb ha w]
  refine (hc w hm).mono ?_
  rintro e w' ⟨v, U', M', rfl, h1, h2, h3⟩
  exact ⟨v, rfl, U', M', h2, h1, h3⟩
 ·rw [hd]; exact h v U' M' hR.1 hR.2
def argEnv : Nat → List Value → Env
 | _, [] => []
 | k, v :: r => (k, v) :: argEnv (k + 1) r
theorem jm : ∀ (l : List Value) (k t : Nat) (v : Value), lk (argEnv k l) t = some v → k ≤ t ∧ l[t - k]? = some v
 | [], k, t, v, h => by simp [argEnv, lk] at h
 | u :: r, k, t, v, h => by
  by_cases e : k = t
  ·subst e
   simp only [argEnv] at h
   rw [Jo] at h
   exact ⟨Nat.le_refl _, by simpa using h⟩
  ·simp only [argEnv] at h
   rw [QS e] at h
   obtain ⟨h1, h2⟩ := jm r (k + 1) t v h
   refine ⟨by omega, ?_⟩
   have : t - k = (t - (k + 1)) + 1 := by omega
   rw [this, List.getElem?_cons_succ]; exact h2
theorem Qf {f : Nat} {fn : Func} {c : Code} {args : List Value} {R : Value → UH → MH → Prop} (hf : P.funcs[f]? = some fn) (hb : fn.body = some c) (hN : fn.ntmps = N) (hname : (fn.name == "runtime.NumGoroutine") = false)
  (hle : Nat.ble args.length N = true)
  (h : St P (bodyPost P fn fun e w' => ∃ v U' D, e = .returned v ∧ ULe U U' ∧ Mem G U' (D ++ M) w' ∧ R v U' D) N G c (argEnv 0 args) U M) : Ct P f args G U M R := by
 refine ⟨by simp [Hp.callable, hf, hb, hname], fun w hw => calls_of_wp hf hb (h.run _ w ?_ hw)⟩
 have hle' := Nat.le_of_ble_eq_true hle
 refine ⟨rfl, by simp [hN]; omega, fun t v hv => ?_⟩
 obtain ⟨_, h2⟩ := jm args 0 t v hv
 simp only [Nat.sub_zero] at h2
 have hlt := (List.getElem?_eq_some_iff.1 h2).1
 rw [Array.getElem?_append_left (by simpa using hlt)]
 simpa using h2
inductive RV (T : TT) (E : Env) (M : MH) : ResultVar → Value → Prop where
 | tmp {t : Nat} {v : Value} (h : lk E t = some v) : RV T E M (.tmp t) v
 | cell {a t b tb : Nat} {old v : Value} (i : Nat) (ha : lk E a = some (.pointer (some ⟨b, 0, none⟩))) (hM : nth M i = some (b, .var old, tb)) (hl : ldv T t old 0 = some v) : RV T E M (.cell a t) v
inductive RVs (T : TT) (E : Env) (M : MH) : List ResultVar → List Value → Prop where
 | nil : RVs T E M [] []
 | cons {r : ResultVar} {v : Value} {rs : List ResultVar} {vs : List Value} (h : RV T E M r v) (hs : RVs T E M rs vs) : RVs T E M (r :: rs) (v :: vs)
def resOne (tmps : Array Value) : ResultVar → Sem Value
 | .tmp t => pure (tmps.getD t undef)
 | .cell x t => do loadVar t (← asAddr (tmps.getD x undef))
theorem RV.run {r : ResultVar} {v : Value} (hS : Sym P T) (h : RV T E M r v) {a : Act} {w : World} (ha : Has a N E) (hw : Mem G U M w) :
  (resOne a.tmps r).run P w = .ok v w := by
 cases h with
 | tmp h => simp [resOne, ha.get _ _ h]
 | cell i hp hM hl =>
  rw [Jg] at hM
  have := Qcc hS hl (hw.own_at hM)
  simp [resOne, ha.get _ _ hp, asAddr, this]
theorem RVs.run {rs : List ResultVar} {vs : List Value} (hS : Sym P T) (h : RVs T E M rs vs) {a : Act} {w : World} (ha : Has a N E) (hw : Mem G U M w) :
  (rs.mapM (resOne a.tmps)).run P w = .ok vs w := by
 induction h with
 | nil => simp
 | cons h hs ih =>
  have h1 := h.run hS ha hw
  simp only [List.mapM_cons, Sem.run_bind, h1, Result.andThen_ok, ih, Sem.run_pure]
theorem QbV (fn : Func) (tmps : Array Value) : results fn tmps = (do let vs ← fn.results.mapM (resOne tmps); pure (if h : vs.size = 1 then vs[0] else .tuple vs)) := by
 unfold results
 have : (fun r : ResultVar => (match r with | .tmp t => pure (tmps.getD t undef) | .cell a t => do loadVar t (← asAddr (tmps.getD a undef)) : Sem Value)) = resOne tmps := by
  funext r; cases r <;> rfl
 rw [← this]
 rfl
def tup : List Value → Value
 | [v] => v
 | vs => .tuple vs.toArray
theorem jy {fn : Func} {rs : List ResultVar} {vs : List Value} (hS : Sym P T) (hrs : fn.results = rs.toArray) (h : RVs T E M rs vs) {a : Act} {w : World} (ha : Has a N E) (hw : Mem G U M w) : (results fn a.tmps).run P w = .ok (tup vs) w := by
 have h1 := h.run hS ha hw
 have h2 : (fn.results.mapM (resOne a.tmps)).run P w = .ok vs.toArray w := by
  rw [hrs, List.mapM_toArray]
  simp only [Sem.run_map, h1, Result.andThen_ok]
 rw [QbV]
 simp only [Sem.run_bind, h2, Result.andThen_ok, Sem.run_pure]
 cases vs with
 | nil => rfl
 | cons v r => cases r with
  | nil => rfl
  | cons u r => simp [tup]
theorem Qe {fn : Func} {rs : List ResultVar} {vs : List Value} {R : Value → UH → MH → Prop} {U0 : UH} {M0 : MH} (D : MH) (hS : Sym P T) (hrs : fn.results = rs.toArray) (h : RVs T E M rs vs) (hU : ULe U0 U) (hM : (D ++ M0).Sublist M) {e : Exit} (he : e = .ret ∨ e = .normal) (hR : R (tup vs) U D) :
  SK (bodyPost P fn fun e w' => ∃ v U' D, e = .returned v ∧ ULe U0 U' ∧ Mem G U' (D ++ M0) w' ∧ R v U' D) N G e E U M := by
 refine ⟨fun a w ha hw => ?_⟩
 have hrun := jy hS hrs h ha hw
 have hm := hw.anti (ULe.refl U) hM
 rcases he with rfl | rfl
 ·exact ⟨ha.defers, _, hrun, _, U, D, rfl, hU, hm, hR⟩
 ·exact ⟨ha.defers, _, hrun, _, U, D, rfl, hU, hm, hR⟩
end Go.Hp

/- The rules with which the functions are walked, fifth part: literals of slices, append, strings. Program in general; no condition. -/
namespace Go.Hp
variable {P : Program} {T : TT} {K : Kont} {N : Nat} {G : World} {E : Env} {U : UH} {M : MH} {L : List Oper} {l : List Ent} {f : Bool} {i : Nat} {o : Oper}
def enum : Nat → List Value → List (Nat × Value)
 | _, [] => []
 | k, v :: r => (k, v) :: enum (k + 1) r
theorem Qaw {s : Nat} : ∀ (vs : List Value) (pre : List Value) (k : Nat) (z : List Value), (∀ v ∈ vs, v.cells.toList.length = s) → pre.length = k * s → z.length = vs.length * s →
  Instr.fill (fun i => some (i * s, s)) (pre ++ z).toArray (enum k vs) = some (pre ++ vs.flatMap fun v => v.cells.toList).toArray
 | [], pre, k, z, _, _, hz => by
  have : z = [] := List.eq_nil_of_length_eq_zero (by simpa using hz)
  subst this
  simp [enum, Instr.fill]
 | v :: vs, pre, k, z, hv, hp, hz => by
  have h0 := hv v (List.mem_cons_self ..)
  have h0' : v.cells.size = s := by simpa using h0
  simp only [List.length_cons, Nat.add_mul, Nat.one_mul] at hz
  simp only [enum, Instr.fill]
  have h1 : (v.cells.size ≠ s || k * s + v.cells.size > (pre ++ z).toArray.size) = false := by
   simp [h0', hp, hz]
  simp only [h1, Bool.false_eq_true, if_false]
  have h2 : v.cells.zipIdx.foldl (fun (cs : Array Value) (p : Value × Nat) => cs.setIfInBounds (k * s + p.2) p.1) (pre ++ z).toArray = ((pre ++ v.cells.toList) ++ z.drop s).toArray := by
   apply Array.ext'
   have := jo v.cells.toList (pre ++ z).toArray (k * s) 0 (by rw [h0]; simp [hp, hz])
   rw [← Array.foldl_toList, Array.toList_zipIdx, this]
   simp only [setSeg, Nat.add_zero, h0, ← hp]
   rw [List.take_left, List.drop_append, List.drop_eq_nil_of_le (by omega)]
   simp
  have h3 := Qaw vs (pre ++ v.cells.toList) (k + 1) (z.drop s) (fun u hu => hv u (List.mem_cons_of_mem _ hu)) (by rw [List.length_append, hp, h0, Nat.add_mul]; omega) (by rw [List.length_drop, hz]; omega)
  rw [List.flatMap_cons, ← List.append_assoc, ← h3, ← h2]
def seqB : Nat → List (Nat × Operand) → Bool
 | _, [] => true
 | k, (j, _) :: r => Nat.beq j k && seqB (k + 1) r
theorem vz {a : Act} (h : Has a N E) : ∀ {k : Nat} {ps : List (Nat × Operand)} {vs : List Value}, seqB k ps = true → evs E (ps.map (·.2)) = some vs → ps.map (fun p => (p.1, a.eval p.2)) = enum k vs
 | k, [], vs, _, hv => by simp [evs] at hv; simp [hv, enum]
 | k, (j, x) :: r, vs, hs, hv => by
  simp only [seqB, Bool.and_eq_true] at hs
  have e := Nat.eq_of_beq_eq_true hs.1
  subst e
  simp only [List.map_cons, evs] at hv
  split at hv
  ·rename_i v hx
   split at hv
   ·rename_i us hus
    simp only [Option.some.injEq] at hv
    subst hv
    simp only [List.map_cons, enum, h.eval hx, vz h hs.2 hus]
   ·cases hv
  ·cases hv
theorem QJ {d t e len s bt bt' bs : Nat} {ps : List (Nat × Operand)} {vs : List Value} {z z' : Value} {ek : TK} (hS : Sym P T) (ho : o.op = .buildSlice t len ps.toArray) (hseq : seqB 0 ps = true) (hv : evs E (ps.map (·.2)) = some vs)
  (hT : lkT T t = some ⟨.slice e, bt, bt', z'⟩) (he : lkT T e = some ⟨ek, s, bs, z⟩) (hlen : vs.length = len) (hvs : ∀ v ∈ vs, v.cells.toList.length = s) (_hz : z.cells.toList.length = s) (hs : Nat.ble (len * s) 16777216 = true)
  (hg : gok L E o.guard = some true) (hk : cB f T o = true) (hd : o.dst = some d) (hN : Nat.blt d N = true)
  (h : ∀ b, SL P T L K N G l ((d, .slice (some ⟨b, 0, none⟩) len len) :: E) U ((b, .arr vs, e) :: M)) : SL P T L K N G ((f, i, o) :: l) E U M := by
 refine QeA (R := fun r U' D => ∃ b, r = .slice (some ⟨b, 0, none⟩) len len ∧ U' = U ∧ D = [(b, .arr vs, e)]) hg hk hd hN
  (fun M a w ha hw => ?_) (fun _ _ _ _ ⟨b, h1, h2, h3⟩ => by subst h1 h2 h3; exact h b)
 obtain ⟨dd, hdd, hkk⟩ := (hS.at hT).und
 have := QT hkk
 subst this
 have hsz := (hS.at he).run_size w
 have hzr := (hS.at he).run_zero w
 have h1 := vz ha hseq hv
 have h2 : (ps.toArray.map fun (p : Nat × Operand) => (p.1, a.eval p.2)).toList = enum 0 vs := by rw [List.map_toArray]; exact h1
 have h3 : ∀ z : Array Value, Instr.fill (fun i => some (i * s, s)) ((Array.range (len * s)).map fun j => z[j % z.size]!) (enum 0 vs) = some (Blk.arr vs).cells := fun z => by
  have := Qaw vs [] 0 ((Array.range (len * s)).map fun j => z[j % z.size]!).toList hvs (by simp) (by simp [hlen])
  have e : ((Array.range (len * s)).map fun j => z[j % z.size]!) = ([] ++ ((Array.range (len * s)).map fun j => z[j % z.size]!).toList).toArray := by rw [List.nil_append, Array.toArray_toList]
  rw [e, this]; rfl
 have hle := Nat.le_of_ble_eq_true hs
 have h4 : ¬ (len * s > 2 ^ 24) := by omega
 refine ⟨_, _, _, _, ?_, ULe.refl _, hw.alloc (.arr vs) e, _, rfl, rfl, rfl⟩
 simp only [execOp, ho]
 refine (Ya (v := .slice (some ⟨w.heap.size, 0, none⟩) len len) (w' := w.alloc (.cells (Blk.arr vs).cells e)) ?_)
 by_cases h0 : len * s = 0
 ·simp only [Instr.buildSlice, Sem.run_bind, Qp hdd, Result.andThen_ok, hsz, if_neg h4, if_pos h0, h2, Sem.run_pure, h3]
  simp [yH]
 ·simp only [Instr.buildSlice, Sem.run_bind, Qp hdd, Result.andThen_ok, hsz, if_neg h4, if_neg h0, h2, Sem.run_pure, hzr, h3]
  simp [yH]
abbrev flat (l : List Value) : List Value := l.flatMap fun v => v.cells.toList
theorem jr {z : Value} {s : Nat} (hs : z.cells.toList.length = s) (h0 : 0 < s) (n : Nat) : Builtin.zeroCells z.cells n = (flat (List.replicate n z)).toArray := by
 have h := jk hs h0 n
 have hz : z.cells.size = s := by simpa using hs
 simp only [madeCells, Blk.cells] at h
 simp only [Builtin.zeroCells, hz]
 rw [hz] at h
 exact h
inductive Row (e : Nat) : MH → Option Addr → Nat → Nat → List Value → Prop where
 | nil : Row e [] none 0 0 []
 | row {b n c : Nat} {r : List Value} (hn : n ≤ c) (hc : r.length = c) (hm : c ≤ 9223372036854775807) : Row e [(b, .arr r, e)] (some ⟨b, 0, none⟩) n c (r.take n)
theorem Row.len {e : Nat} {D : MH} {p : Option Addr} {n c : Nat} {l : List Value} (h : Row e D p n c l) : l.length = n ∧ n ≤ c ∧ c ≤ 9223372036854775807 := by
 cases h with
 | nil => exact ⟨rfl, Nat.le_refl _, by omega⟩
 | row hn hc hm => exact ⟨by rw [List.length_take, hc]; omega, hn, hm⟩
theorem Qav {w : World} {need old e : Nat} (h : need ≤ 9223372036854775807) : need ≤ grownCap w need old e ∧ grownCap w need old e ≤ 9223372036854775807 := by
 have h1 := grownCap_ge w need old e
 have h2 := grownCap_le_maxLen w need old e (by simpa [maxLen] using h)
 simp only [maxLen] at h2
 exact ⟨h1, by omega⟩
theorem jY {e s bs t ty : Nat} {z : Value} {ti : TI} (hS : TI.ok P e ti) (hts : ti.size = s) (htb : ti.bytes = bs) (htz : ti.zero = z) (ht : P.underlying t = some (.slice e)) (hz : z.cells.toList.length = s) (h0 : 0 < s) {D M0 : MH} {p : Option Addr} {n c : Nat} {vl : List Value} (hrow : Row e D p n c vl) (hvl : ∀ v ∈ vl, v.cells.toList.length = s)
  (hr : ∀ k, k ∈ D → ∀ r, k.2.1 = .arr r → ∀ v ∈ r, v.cells.toList.length = s)
  {w : World} (hw : Mem G U (D ++ M0) w) {q : Option Addr} {m c' : Nat} {news : List Value} (hm : news.length = m) (hnews : ∀ v ∈ news, v.cells.toList.length = s) (h1 : ∀ u ∈ flat news, u.oneCell' = true)
  (hq : m ≠ 0 → ∃ a, q = some a ∧ ∀ j u, (flat news)[j]? = some u → w.cell? (a.add j) = some u) (hbound : (n + m) * bs ≤ 140737488355328) (h63 : n + m ≤ 9223372036854775807) :
  ∃ w' D' p' cc r, (Builtin.append_ #[t, t] ty #[.slice p n c, .slice q m c']).run P w = .ok (.slice p' (n + m) cc) w' ∧ Row e D' p' (n + m) cc r ∧ r = vl ++ news ∧ Mem G U (D' ++ M0) w' ∧ (∀ k, k ∈ D' → ∀ r, k.2.1 = .arr r → ∀ v ∈ r, v.cells.toList.length = s) := by
 obtain ⟨inf, _, hi, hiz, hsz, hby⟩ := hS.run_info w
 have hsz' : inf.size = s := by rw [hsz, hts]
 have hby' : inf.bytes = bs := by rw [hby, htb]
 have hiz' : inf.zero = some z := by rw [hiz, htz]
 have hnl : (flat news).length = m * inf.size := by rw [Jm hnews, hm, hsz']
 have hlenvl := hrow.len
 by_cases hm0 : m = 0
 ·
  subst hm0
  have hnil : news = [] := List.eq_nil_of_length_eq_zero hm
  subst hnil
  refine ⟨w, D, p, c, vl, ?_, hrow, by simp, hw, hr⟩
  have hle : n + 0 ≤ c := by omega
  have hf : (Builtin.firstCells inf.size 0 (.slice q 0 c')).run P w = .ok #[] w := by
   cases q with
   | none => simp [Builtin.firstCells]
   | some a => simp [Builtin.firstCells, loadCells, loadCellsFrom]
  cases p with
  | none => simp [Builtin.append_, Qp ht, sizeOf, typeInfo, hi, Builtin.lenOf, hlenvl.2.1, hf]
  | some a => simp [Builtin.append_, Qp ht, sizeOf, typeInfo, hi, Builtin.lenOf, hlenvl.2.1, hf, storeCells]
 ·obtain ⟨a, rfl, ha⟩ := hq hm0
  by_cases hroom : n + m ≤ c
  ·
   cases hrow with
   | nil => omega
   | @row b _ _ r hn hc hcm =>
    have hb := hw.own_at (i := 0) (by rfl : ((b, Blk.arr r, e) :: M0)[0]? = _)
    have hrl : ∀ v ∈ r, v.cells.toList.length = s := hr _ (List.mem_singleton.2 rfl) r rfl
    have hcs : (Blk.arr r).cells.size = c * s := by simp only [Blk.cells, List.size_toArray, Jm hrl, hc]
    have hfit : n * inf.size + (flat news).length ≤ (Blk.arr r).cells.size := by
     rw [hnl, hcs, hsz', ← Nat.add_mul]; exact Nat.mul_le_mul_right _ hroom
    have hrun := run_append_room (P := P) w t ty e inf ht hi b n c (Blk.arr r).cells hb a m c' (flat news) hnl ha h1 hroom hfit
    refine ⟨_, [(b, .arr (r.take n ++ news ++ r.drop (n + m)), e)], _, c, _, hrun, Row.row (r := r.take n ++ news ++ r.drop (n + m)) hroom ?_ hcm, ?_, ?_, ?_⟩
    ·simp only [List.length_append, List.length_take, List.length_drop, hm, hc]; omega
    ·exact List.take_left' (by rw [List.length_append, List.length_take, hc, hm, Nat.min_eq_left hn])
    ·refine hw.setRow (i := 0) (by rfl : ((b, Blk.arr r, e) :: M0)[0]? = _) (k' := .arr (r.take n ++ news ++ r.drop (n + m))) ?_
     simp only [Blk.cells, hnl, hsz']
     apply congrArg
     have e1 := Vl (l := r) n hrl
     have e2 := Vj (l := r) (n + m) hrl
     simp only [← Nat.add_mul, e1, e2, List.flatMap_append]
    ·intro k hk r' hk' v hv
     simp only [List.mem_singleton] at hk
     subst hk
     simp only [Blk.arr.injEq] at hk'
     subst hk'
     simp only [List.mem_append] at hv
     rcases hv with (hv | hv) | hv
     ·exact hrl v (List.mem_of_mem_take hv)
     ·exact hnews v hv
     ·exact hrl v (List.mem_of_mem_drop hv)
  ·
   have hneed : ((n + m : Nat) : Int) ≤ 9223372036854775807 := by omega
   have hg := Qav (w := w) (old := c) (e := e) h63
   have hfitb := growslice_fits (need := n + m) (old := c) (bytes := inf.bytes) (by omega) (by rw [hby']; exact hbound)
   have hold : ∀ (cs : Array Value) (k : Nat), cs = (flat (vl ++ news ++ List.replicate k z)).toArray → (n + m) + k = grownCap w (n + m) c e →
     Row e [(w.heap.size, .arr (vl ++ news ++ List.replicate k z), e)] (some ⟨w.heap.size, 0, none⟩) (n + m) (grownCap w (n + m) c e) (vl ++ news) ∧
     Mem G U ((w.heap.size, .arr (vl ++ news ++ List.replicate k z), e) :: M0) (w.drew.alloc (.cells cs e)) := by
    intro cs k hcs hk
    refine ⟨?_, ?_⟩
    ·have := Row.row (e := e) (b := w.heap.size) (n := n + m) (c := grownCap w (n + m) c e) (r := vl ++ news ++ List.replicate k z) (by omega) (by simp only [List.length_append, List.length_replicate, hm, hlenvl.1]; omega) hg.2
     rwa [List.take_append, List.take_of_length_le (by simp [hm, hlenvl.1]), List.length_append, hm, hlenvl.1, Nat.sub_self, List.take_zero, List.append_nil] at this
    ·rw [hcs]
     have h2 := ((hw.anti (ULe.refl U) (List.sublist_append_right D M0)).drawn (w.drawn + 1)).alloc (.arr (vl ++ news ++ List.replicate k z)) e
     exact h2
   have hlast : ∀ k', k' ∈ [(w.heap.size, Blk.arr (vl ++ news ++ List.replicate (grownCap w (n + m) c e - (n + m)) z), e)] → ∀ r, k'.2.1 = .arr r → ∀ v ∈ r, v.cells.toList.length = s := by
    intro k' hk' r hr' v hv
    simp only [List.mem_singleton] at hk'
    subst hk'
    simp only [Blk.arr.injEq] at hr'
    subst hr'
    simp only [List.mem_append] at hv
    rcases hv with (hv | hv) | hv
    ·exact hvl v hv
    ·exact hnews v hv
    ·rw [(List.mem_replicate.1 hv).2]; exact hz
   cases hrow with
   | nil =>
    have hrun := run_append_nil (P := P) w t ty e inf z ht hi hiz' a m c' (flat news) hnl ha (by omega) (by omega) (by rw [hby']; simp only [Nat.zero_add] at hbound; omega)
    simp only [Nat.zero_add] at hold hlast hg ⊢
    obtain ⟨h2, h3⟩ := hold ((flat news).toArray ++ Builtin.zeroCells z.cells (grownCap w m 0 e - m)) (grownCap w m 0 e - m) (by
     rw [jr hz h0]; simp) (by omega)
    exact ⟨_, _, _, _, _, hrun, h2, by simp, h3, hlast⟩
   | @row b _ _ r hn hc hcm =>
    have hrl : ∀ v ∈ r, v.cells.toList.length = s := hr _ (List.mem_singleton.2 rfl) r rfl
    have holds : ∀ j u, (flat (r.take n))[j]? = some u → w.cell? ((⟨b, 0, none⟩ : Addr).add j) = some u := by
     intro j u hu
     rw [Ji, hw.cellM (i := 0) (by rfl : ((b, Blk.arr r, e) :: M0)[0]? = _)]
     simp only [Nat.zero_add, Blk.cells, List.getElem?_toArray]
     have hu' := hu
     unfold flat at hu'
     rw [← Vl n hrl, List.getElem?_take] at hu'
     clear hu
     have hu := hu'
     clear hu'
     split at hu
     ·exact hu
     ·cases hu
    have hrun := run_append_grow (P := P) w t ty e inf z ht hi hiz' ⟨b, 0, none⟩ n c (flat (r.take n)) (by rw [Jm hvl, hlenvl.1, hsz']) holds a m c' (flat news) hnl ha (by omega) hneed hfitb
    obtain ⟨h2, h3⟩ := hold ((flat (r.take n)).toArray ++ (flat news).toArray ++ Builtin.zeroCells z.cells (grownCap w (n + m) c e - (n + m))) (grownCap w (n + m) c e - (n + m)) (by
     rw [jr hz h0]; simp) (by omega)
    exact ⟨_, _, _, _, _, hrun, h2, rfl, h3, hlast⟩
theorem VY {d t e s bs bt bt' : Nat} {x y : Operand} {z z' : Value} {ek : TK} {D M0 : MH} {p q : Option Addr} {n c m c' : Nat} {vl news : List Value} (hS : Sym P T) (ho : o.op = .call { callee := .builtin .append, args := #[x, y], argTypes := #[t, t] })
  (hx : ev E x = some (.slice p n c)) (hy : ev E y = some (.slice q m c')) (hT : lkT T t = some ⟨.slice e, bt, bt', z'⟩) (he : lkT T e = some ⟨ek, s, bs, z⟩) (hz : z.cells.toList.length = s) (h0 : Nat.blt 0 s = true)
  (hM : M = D ++ M0) (hrow : Row e D p n c vl) (hvl : ∀ v ∈ vl, v.cells.toList.length = s) (hr : ∀ k, k ∈ D → ∀ r, k.2.1 = .arr r → ∀ v ∈ r, v.cells.toList.length = s)
  (hm : news.length = m) (hnews : ∀ v ∈ news, v.cells.toList.length = s) (h1 : ∀ u ∈ flat news, u.oneCell' = true)
  (hq : m ≠ 0 → ∃ a, q = some a ∧ ∀ w, Mem G U M w → ∀ j u, (flat news)[j]? = some u → w.cell? (a.add j) = some u) (hbound : (n + m) * bs ≤ 140737488355328) (h63 : n + m ≤ 9223372036854775807)
  (hg : gok L E o.guard = some true) (hk : f = false) (hd : o.dst = some d) (hN : Nat.blt d N = true)
  (h : ∀ p' cc D', Row e D' p' (n + m) cc (vl ++ news) → (∀ k, k ∈ D' → ∀ r, k.2.1 = .arr r → ∀ v ∈ r, v.cells.toList.length = s) → SL P T L K N G l ((d, .slice p' (n + m) cc) :: E) U (D' ++ M0)) : SL P T L K N G ((f, i, o) :: l) E U M := by
 subst hM
 refine QeD (R := fun r U' M' => ∃ p' cc D', r = .slice p' (n + m) cc ∧ U' = U ∧ M' = D' ++ M0 ∧ Row e D' p' (n + m) cc (vl ++ news) ∧ (∀ k, k ∈ D' → ∀ r, k.2.1 = .arr r → ∀ v ∈ r, v.cells.toList.length = s)) hg (by rw [hk]; rfl) hd hN
  (fun a w ha hw => ?_) (fun _ _ _ ⟨p', cc, D', h1, h2, h3, h4, h5⟩ => by subst h1 h2 h3; exact h p' cc D' h4 h5)
 obtain ⟨dd, hdd, hkk⟩ := (hS.at hT).und
 have := QT hkk
 subst this
 obtain ⟨w', D', p', cc, r, hrun, hrow', rfl, hm', hr'⟩ := jY (ty := o.type) (hS.at he) rfl rfl rfl hdd hz (Nat.le_of_ble_eq_true h0) hrow hvl hr hw (c' := c') hm hnews h1 (fun hm0 => by
  obtain ⟨a, ha, hb⟩ := hq hm0
  exact ⟨a, ha, hb w hw⟩) hbound h63
 refine ⟨_, w', U, _, ?_, hm', p', cc, D', rfl, rfl, rfl, hrow', hr'⟩
 simp only [execOp, ho, resolve, List.map_toArray, List.map_cons, List.map_nil, ha.eval hx, ha.eval hy, Sem.run_bind, Sem.run_pure, Result.andThen_ok, invoke, builtin, hrun]
end Go.Hp

/- Calls that write the caller's own memory; some more arithmetic. -/
namespace Go.Hp
variable {P : Program} {T : TT} {K : Kont} {N : Nat} {G : World} {E : Env} {U : UH} {M : MH} {L : List Oper} {l : List Ent} {f : Bool} {i : Nat} {o : Oper}
structure Cx (P : Program) (f : Nat) (args : List Value) (G : World) (U : UH) (M : MH) (R : Value → UH → MH → Prop) : Prop where
 callable : callable P f = true
 calls : ∀ w, Mem G U M w → Calls P f args.toArray w fun e w' => ∃ v U' M', e = .returned v ∧ ULe U U' ∧ Mem G U' M' w' ∧ R v U' M'
theorem Cx.mono {f : Nat} {args : List Value} {R R' : Value → UH → MH → Prop} (h : Cx P f args G U M R) (hr : ∀ v U' M', ULe U U' → R v U' M' → R' v U' M') : Cx P f args G U M R' :=
 ⟨h.callable, fun w hw => (h.calls w hw).mono fun _ _ ⟨v, U', D, h1, h2, h3, h4⟩ => ⟨v, U', D, h1, h2, h3, hr _ _ _ h2 h4⟩⟩
theorem Cx.perm {f : Nat} {args : List Value} {M0 : MH} {R : Value → UH → MH → Prop} (h : Cx P f args G U M0 R) (hp : M.Perm M0) : Cx P f args G U M R :=
 ⟨h.callable, fun w hw => h.calls w (hw.perm hp)⟩
theorem Cx.out {f : Nat} {args : List Value} {R R' : Value → UH → MH → Prop} (h : Cx P f args G U M R) (hr : ∀ v U' M', ULe U U' → R v U' M' → ∃ M'', M'.Perm M'' ∧ R' v U' M'') : Cx P f args G U M R' :=
 ⟨h.callable, fun w hw => (h.calls w hw).mono fun _ _ ⟨v, U', D, h1, h2, h3, h4⟩ => by
  obtain ⟨M'', h5, h6⟩ := hr _ _ _ h2 h4
  exact ⟨v, U', M'', h1, h2, h3.perm h5, h6⟩⟩
theorem Yu {d c : Nat} {args : List Operand} {tys : Array TypeId} {vs : List Value} {R : Value → UH → MH → Prop} (ho : o.op = .call { callee := .value (.func c), args := args.toArray, argTypes := tys })
  (hv : evs E args = some vs) (hk : f = false) (hd : o.dst = some d) (hN : Nat.blt d N = true) (hg : gok L E o.guard = some true) (hc : Cx P c vs G U M R)
  (h : ∀ v U' M', ULe U U' → R v U' M' → SL P T L K N G l ((d, v) :: E) U' M') : SL P T L K N G ((f, i, o) :: l) E U M :=
 Qeg ho hv hk hd hN hg hc.callable hc.calls h
theorem Yr {f : Nat} {fn : Func} {c : Code} {args : List Value} {R : Value → UH → MH → Prop} (hf : P.funcs[f]? = some fn) (hb : fn.body = some c) (hN : fn.ntmps = N) (hname : (fn.name == "runtime.NumGoroutine") = false)
  (hle : Nat.ble args.length N = true)
  (h : St P (bodyPost P fn fun e w' => ∃ v U' M', e = .returned v ∧ ULe U U' ∧ Mem G U' M' w' ∧ R v U' M') N G c (argEnv 0 args) U M) : Cx P f args G U M R := by
 refine ⟨by simp [Hp.callable, hf, hb, hname], fun w hw => calls_of_wp hf hb (h.run _ w ?_ hw)⟩
 have hle' := Nat.le_of_ble_eq_true hle
 refine ⟨rfl, by simp [hN]; omega, fun t v hv => ?_⟩
 obtain ⟨_, h2⟩ := jm args 0 t v hv
 simp only [Nat.sub_zero] at h2
 have hlt := (List.getElem?_eq_some_iff.1 h2).1
 rw [Array.getElem?_append_left (by simpa using hlt)]
 simpa using h2
theorem JP {fn : Func} {rs : List ResultVar} {vs : List Value} {R : Value → UH → MH → Prop} {U0 : UH} {M' : MH} (hS : Sym P T) (hrs : fn.results = rs.toArray) (h : RVs T E M rs vs) (hU : ULe U0 U) (hM : M'.Sublist M) {e : Exit} (he : e = .ret ∨ e = .normal) (hR : R (tup vs) U M') :
  SK (bodyPost P fn fun e w' => ∃ v U' M', e = .returned v ∧ ULe U0 U' ∧ Mem G U' M' w' ∧ R v U' M') N G e E U M := by
 refine ⟨fun a w ha hw => ?_⟩
 have hrun := jy hS hrs h ha hw
 have hm := hw.anti (ULe.refl U) hM
 rcases he with rfl | rfl
 ·exact ⟨ha.defers, _, hrun, _, U, M', rfl, hU, hm, hR⟩
 ·exact ⟨ha.defers, _, hrun, _, U, M', rfl, hU, hm, hR⟩
theorem Qgw {ty yt : Nat} {x y : Operand} {a b : Int} {m n : Nat} (ho : o.op = .binOp .or ty x y yt) (hx : ev E x = some (.int .u64 a)) (hy : ev E y = some (.int .u64 b)) (ha : a = (n : Int)) (hb : b = (m : Int) * 4294967296) (hm : m < 4294967296) (hn : n < 4294967296) :
  Yl P N G o E U M (.int .u64 ((m * 4294967296 + n : Nat) : Int)) := by
 refine Vt ho hx hy (funext fun w => ?_)
 subst ha hb
 have h1 : (BitVec.ofInt 64 (n : Int) ||| BitVec.ofInt 64 ((m : Int) * 4294967296)).toNat = m * 4294967296 + n := by
  have e : ((m : Int) * 4294967296) = ((m * 4294967296 : Nat) : Int) := by omega
  rw [e, BitVec.ofInt_natCast, BitVec.ofInt_natCast, BitVec.toNat_or, BitVec.toNat_ofNat, BitVec.toNat_ofNat, Nat.mod_eq_of_lt (by omega), Nat.mod_eq_of_lt (by omega), Nat.or_comm]
  have := Nat.shiftLeft_add_eq_or_of_lt (i := 32) (b := n) (by omega) m
  rw [Nat.shiftLeft_eq] at this
  exact this.symm
 simp only [binOp, ne_eq, not_true_eq_false, if_false, Op.intBits, IntKind.bits]
 show Result.ok (Value.int .u64 (IntKind.u64.wrap (((BitVec.ofInt 64 (n : Int) ||| BitVec.ofInt 64 ((m : Int) * 4294967296)).toNat : Nat) : Int))) w = _
 rw [h1, IntWalk.u64_in _ (by omega)]
end Go.Hp

/- The owned memory in another order, within a region. -/
namespace Go.Hp
variable {P : Program} {T : TT} {K : Kont} {N : Nat} {G : World} {E : Env} {U : UH} {M : MH} {L : List Oper} {l : List Ent} {f : Bool} {i : Nat} {o : Oper}
theorem Js {e : Exit} {M' : MH} (hp : M.Perm M') (h : SK K N G e E U M') : SK K N G e E U M := ⟨fun a w ha hw => h.run a w ha (hw.perm hp)⟩
theorem JO {c : Code} {M' : MH} (hp : M.Perm M') (h : St P K N G c E U M') : St P K N G c E U M := ⟨fun a w ha hw => h.run a w ha (hw.perm hp)⟩
theorem Qh {M M' : MH} (h : SL P T L K N G l E U M') (hp : M.Perm M') : SL P T L K N G l E U M := by
 induction h generalizing M with
 | nil h => exact .nil (Js hp h)
 | det hk hd hN hy h ih => exact .det hk hd hN ⟨fun a w ha hw => hy.run a w ha (hw.perm hp)⟩ (ih hp)
 | al ho hg hz hd hN h ih => exact .al ho hg hz hd hN fun b => ih b (hp.cons _)
 | gr hk hd hN hr h ih =>
  refine .gr hk hd hN (fun M2 a w ha hw => ?_) (fun v U' D h1 h2 => ih v U' D h1 h2 (hp.append_left D))
  refine Vh (hr M2 a w ha (hw.perm (hp.append_left M2))) ?_
  rintro v w' ⟨U', D, h1, h2, h3⟩
  exact ⟨U', D, h1, h2.perm (((hp.append_left M2).append_left D).symm), h3⟩
 | x hk hN hr h ih => exact .x hk hN (fun a w ha hw => hr a w ha (hw.perm hp)) h
theorem perm1 {α : Type} {D M : List α} {x : α} : (D ++ x :: M).Perm (x :: (D ++ M)) := List.perm_middle
theorem perm2 {α : Type} {D M : List α} {x y : α} : (D ++ x :: y :: M).Perm (x :: y :: (D ++ M)) := List.perm_middle.trans (List.perm_middle.cons x)
theorem perm3 {α : Type} {D M : List α} {x y z : α} : (D ++ x :: y :: z :: M).Perm (x :: y :: z :: (D ++ M)) := List.perm_middle.trans (perm2.cons x)
theorem perm4 {α : Type} {D M : List α} {x y z u : α} : (D ++ x :: y :: z :: u :: M).Perm (x :: y :: z :: u :: (D ++ M)) := List.perm_middle.trans (perm3.cons x)
theorem perm5 {α : Type} {D M : List α} {x y z u v : α} : (D ++ x :: y :: z :: u :: v :: M).Perm (x :: y :: z :: u :: v :: (D ++ M)) := List.perm_middle.trans (perm4.cons x)
theorem perm6 {α : Type} {D M : List α} {x y z u v a : α} : (D ++ x :: y :: z :: u :: v :: a :: M).Perm (x :: y :: z :: u :: v :: a :: (D ++ M)) := List.perm_middle.trans (perm5.cons x)
theorem perm7 {α : Type} {D M : List α} {x y z u v a b : α} : (D ++ x :: y :: z :: u :: v :: a :: b :: M).Perm (x :: y :: z :: u :: v :: a :: b :: (D ++ M)) := List.perm_middle.trans (perm6.cons x)
theorem perm8 {α : Type} {D M : List α} {x y z u v a b c : α} : (D ++ x :: y :: z :: u :: v :: a :: b :: c :: M).Perm (x :: y :: z :: u :: v :: a :: b :: c :: (D ++ M)) := List.perm_middle.trans (perm7.cons x)
theorem rot3 {α : Type} {R : List α} {o x y z : α} : (o :: x :: y :: z :: R).Perm (x :: y :: z :: o :: R) := perm3 (D := [o]) (M := R)
theorem swp3 {α : Type} {A B R : List α} {x y z : α} : (x :: y :: z :: (A ++ (B ++ R))).Perm (x :: y :: z :: (B ++ (A ++ R))) := ((((List.perm_append_comm_assoc ..).cons _).cons _).cons _)
theorem swp4 {α : Type} {A B R : List α} {x y z u : α} : (x :: y :: z :: u :: (A ++ (B ++ R))).Perm (x :: y :: z :: u :: (B ++ (A ++ R))) := (((((List.perm_append_comm_assoc ..).cons _).cons _).cons _).cons _)
theorem swp7 {α : Type} {A B R : List α} {x y z u v a b : α} : (x :: y :: z :: u :: v :: a :: b :: (A ++ (B ++ R))).Perm (x :: y :: z :: u :: v :: a :: b :: (B ++ (A ++ R))) := ((((((((List.perm_append_comm_assoc ..).cons _).cons _).cons _).cons _).cons _).cons _).cons _)
theorem vu {α : Type} {l A B M : List α} (h : l.Sublist (A ++ (B ++ M))) : l.Sublist ((A ++ B) ++ M) := by rwa [List.append_assoc]
theorem Qek {α : Type} {A B M X : List α} (h : (A ++ (B ++ M)).Sublist X) : ((A ++ B) ++ M).Sublist X := by rwa [List.append_assoc]
theorem Jw {α : Type} {l A M : List α} (h : l.Sublist M) : l.Sublist (A ++ M) := h.trans (List.sublist_append_right A M)
end Go.Hp

/- A region that draws its order, of which two operations may come up in either order without being exchangeable: walked twice. Program in general; no condition. -/
namespace Go.Hp
variable {P : Program} {T : TT} {K : Kont} {N : Nat} {G : World} {E : Env} {U : UH} {M : MH} {L : List Oper}
theorem yD {l : List Nat} {b a : Nat} (h : b ≠ a) : (b :: l).idxOf a = l.idxOf a + 1 := by
 have : (b == a) = false := by simpa using h
 rw [List.idxOf_cons, this]; rfl
theorem QdV (hS : Sym P T) : ∀ (σ : List Nat) (l : List Ent) (E : Env) (U : UH) (M : MH) (a : Act) (w : World), (l.map (·.2.1)).Perm σ → σ.Nodup →
  (∀ p ∈ l, p.1 = true ∧ L[p.2.1]? = some p.2.2) → l.Pairwise (fun p q => swapOK T N L p.2.2 q.2.2 = true ∨ σ.idxOf p.2.1 < σ.idxOf q.2.1) →
  SL P T L K N G l E U M → Has a N E → Mem G U M w → wpOps P L.toArray K σ a w
 | [], l, E, U, M, a, w, hp, _, _, _, h, ha, hm => by
  have : l = [] := by
   have := hp.length_eq
   simp at this
   exact this
  subst this
  cases h with
  | nil h => simpa [wpOps] using h.run a w ha hm
 | i :: σ, l, E, U, M, a, w, hp, hnd, hok, hpw, h, ha, hm => by
  rw [wpOps_cons]
  have hmem : i ∈ l.map (·.2.1) := hp.mem_iff.2 (List.mem_cons_self ..)
  obtain ⟨p, hp1, hpi⟩ := List.mem_map.1 hmem
  obtain ⟨pre, post, rfl⟩ := List.append_of_mem hp1
  obtain ⟨f, i', o⟩ := p
  simp only at hpi
  subst hpi
  obtain ⟨hf, ho⟩ := hok _ hp1
  simp only at hf ho
  subst hf
  have hfront : ∀ q ∈ pre, q.1 = true ∧ swapOK T N L q.2.2 o = true := by
   intro q hq
   refine ⟨(hok q (List.mem_append_left _ hq)).1, ?_⟩
   have hpp := (List.pairwise_append.1 hpw).2.2 q hq _ (List.mem_cons_self ..)
   rcases hpp with hpp | hpp
   ·exact hpp
   ·simp at hpp
  have h2 := SL.front hS hfront h
  have hp2 : ((pre ++ post).map (·.2.1)).Perm σ := by
   rw [List.map_append, List.map_cons] at hp
   rw [List.map_append]
   exact (List.perm_cons i').1 (List.perm_middle.symm.trans hp)
  obtain ⟨hni, hnd2⟩ := List.nodup_cons.1 hnd
  refine SL.wpOp ho h2 ha hm fun E U M a w h ha hm => ?_
  refine QdV hS σ (pre ++ post) E U M a w hp2 hnd2 ?_ ?_ h ha hm
  ·intro q hq
   refine hok q ?_
   rcases List.mem_append.1 hq with hq | hq
   ·exact List.mem_append_left _ hq
   ·exact List.mem_append_right _ (List.mem_cons_of_mem _ hq)
  ·have h3 := hpw.sublist (List.Sublist.append (List.Sublist.refl pre) (List.sublist_cons_self (true, i', o) post))
   have hin : ∀ q ∈ pre ++ post, i' ≠ q.2.1 := fun q hq e => hni (hp2.mem_iff.1 (e ▸ List.mem_map.2 ⟨q, hq, rfl⟩))
   refine h3.imp_of_mem ?_
   intro p q hp hq hpq
   rcases hpq with h | h
   ·exact .inl h
   ·refine .inr ?_
    have e1 := hin p hp
    have e2 := hin q hq
    rw [yD e1, yD e2] at h
    omega
theorem QeC (hdown : ∀ (i : Nat) (o : Oper), L[i]? = some o → ∀ e ∈ o.after, Region.binds .any e = true → e.on < i) : ∀ (n t : Nat) (l : List Nat) (listed : Array Bool), l.length = n → l.Nodup → listed.size = L.length →
  (∀ i ∈ l, i < L.length) → (∀ i, i < L.length → (listed.getD i true = false ↔ i ∈ l)) →
  (Region.linearise.go .any L.toArray n t listed []).Perm l ∧ ∀ q ∈ l, ∀ o, L[q]? = some o → ∀ e ∈ o.after, Region.binds .any e = true →
   listed.getD e.on false = true ∨ (Region.linearise.go .any L.toArray n t listed []).idxOf e.on < (Region.linearise.go .any L.toArray n t listed []).idxOf q := by
 intro n
 induction n with
 | zero =>
  intro t l listed hn hnd hsz hlt hli
  have : l = [] := List.eq_nil_of_length_eq_zero hn
  subst this
  simp [Region.linearise.go]
 | succ n ih =>
  intro t l listed hn hnd hsz hlt hli
  have hne : Region.ready .any L.toArray listed ≠ [] := by
   intro hnil
   have hex : ∃ i, i < L.length ∧ listed.getD i true = false := by
    cases l with
    | nil => cases hn
    | cons p r => exact ⟨p, hlt p (List.mem_cons_self ..), (hli _ (hlt p (List.mem_cons_self ..))).2 (List.mem_cons_self ..)⟩
   have hmin : ∀ m, (∃ i, i < m ∧ i < L.length ∧ listed.getD i true = false) → ∃ i, i < L.length ∧ listed.getD i true = false ∧ ∀ k, k < i → listed.getD k true = true := by
    intro m
    induction m with
    | zero => rintro ⟨i, hi, _⟩; omega
    | succ m ihm =>
     rintro ⟨i, hi, h1, h2⟩
     by_cases hk : ∃ k, k < m ∧ k < L.length ∧ listed.getD k true = false
     ·exact ihm hk
     ·refine ⟨i, h1, h2, fun k hk' => ?_⟩
      cases hb : listed.getD k true with
      | true => rfl
      | false => exact (hk ⟨k, by omega, by omega, hb⟩).elim
   obtain ⟨i, h1, h2⟩ := hex
   obtain ⟨i, h1, h2, h3⟩ := hmin (i + 1) ⟨i, by omega, h1, h2⟩
   have hmem : i ∈ Region.ready .any L.toArray listed := by
    refine mem_ready.2 ⟨h2, L[i], by simp [h1], fun e he hb => ?_⟩
    have hlt := hdown i _ (List.getElem?_eq_getElem h1) e he hb
    have h4 := h3 e.on hlt
    have h5 : e.on < listed.size := by omega
    simp only [Array.getD_eq_getD_getElem?, Array.getElem?_eq_getElem h5, Option.getD_some] at h4 ⊢
    exact h4
   rw [hnil] at hmem
   cases hmem
  have hlen : 0 < (Region.ready .any L.toArray listed).length := List.length_pos_iff.2 hne
  obtain ⟨i, hi⟩ : ∃ i, (Region.ready .any L.toArray listed)[t % (Region.ready .any L.toArray listed).length]? = some i := ⟨_, List.getElem?_eq_getElem (Nat.mod_lt _ hlen)⟩
  have hgo : Region.linearise.go .any L.toArray (n + 1) t listed [] = i :: Region.linearise.go .any L.toArray n (t / (Region.ready .any L.toArray listed).length) (listed.setIfInBounds i true) [] := by
   simp only [Region.linearise.go]
   change (match (Region.ready .any L.toArray listed)[t % (Region.ready .any L.toArray listed).length]? with
    | some i => Region.linearise.go .any L.toArray n (t / (Region.ready .any L.toArray listed).length) (listed.setIfInBounds i true) [i]
    | none => [].reverse) = _
   rw [hi]
   simp only []
   rw [linearise_go_acc]
   simp
  obtain ⟨h1, o, ho, hall⟩ := mem_ready.1 (List.mem_of_getElem? hi)
  simp only [List.getElem?_toArray] at ho
  have hil := (List.getElem?_eq_some_iff.1 ho).1
  have hmem := (hli i hil).1 h1
  have hpe := List.perm_cons_erase hmem
  obtain ⟨ih1, ih2⟩ := ih (t / (Region.ready .any L.toArray listed).length) (l.erase i) (listed.setIfInBounds i true) (by rw [List.length_erase_of_mem hmem]; omega) (hnd.erase i) (by simp [hsz])
   (fun k hk => hlt k (List.mem_of_mem_erase hk)) (fun k hk => by
    by_cases e : i = k
    ·subst e
     constructor
     ·intro h
      rw [Array.getD_eq_getD_getElem?, Array.getElem?_setIfInBounds] at h
      simp [hsz, hk] at h
     ·intro h; exact absurd h (fun h => (hnd.mem_erase_iff.1 h).1 rfl)
    ·rw [getD_set_ne true e, hli k hk, hnd.mem_erase_iff]
     exact ⟨fun h => ⟨Ne.symm e, h⟩, fun h => h.2⟩)
  rw [hgo]
  refine ⟨(ih1.cons i).trans hpe.symm, fun q hq oq hoq e he hb => ?_⟩
  by_cases eq : i = q
  ·subst eq
   rw [ho] at hoq
   cases hoq
   exact .inl (hall e he hb)
  ·rcases ih2 q (hnd.mem_erase_iff.2 ⟨Ne.symm eq, hq⟩) oq hoq e he hb with h | h
   ·by_cases ee : i = e.on
    ·refine .inr ?_
     rw [← ee, List.idxOf_cons_self, yD eq]
     omega
    ·rw [getD_set_ne false ee] at h
     exact .inl h
   ·refine .inr ?_
    rw [yD eq]
    by_cases ee : i = e.on
    ·rw [← ee, List.idxOf_cons_self]; omega
    ·rw [yD ee]; omega
theorem qi {σ : List Nat} (hall : ∀ q ∈ σ, ∀ o, L[q]? = some o → ∀ e ∈ o.after, Region.binds .any e = true → σ.idxOf e.on < σ.idxOf q) {k : Nat} : ∀ (fuel i : Nat), i ∈ σ → reachB L k fuel i = true → σ.idxOf k < σ.idxOf i
 | 0, _, _, h => by cases h
 | fuel + 1, i, hi, h => by
  cases ho : L[i]? with
  | none => rw [reachB, Jg, ho] at h; cases h
  | some o =>
   have hn : nth L i = some o := by rw [Jg]; exact ho
   simp only [reachB, hn, Bool.or_eq_true, List.any_eq_true, Bool.and_eq_true] at h
   rcases h with ⟨e, he, hb, hk⟩ | ⟨e, he, hb, hk⟩
   ·have := Nat.eq_of_beq_eq_true hk
    subst this
    exact hall i hi o ho e (by simpa using he) hb
   ·have h1 := hall i hi o ho e (by simpa using he) hb
    have hm : e.on ∈ σ := List.idxOf_lt_length_iff.1 (Nat.lt_of_lt_of_le h1 (List.idxOf_le_length ..))
    have h2 := qi hall fuel e.on hm hk
    omega
def pairX (T : TT) (N : Nat) (L : List Oper) (x y : Nat) (p q : Ent) : Bool := pairB T N L p q || ((Nat.beq p.2.1 x || reachB L p.2.1 (L.length + 1) x) && (Nat.beq q.2.1 y || reachB L y (L.length + 1) q.2.1))
def pairsX (T : TT) (N : Nat) (L : List Oper) (x y : Nat) : List Ent → Bool
 | [] => true
 | p :: r => r.all (pairX T N L x y p) && pairsX T N L x y r
theorem jJ {x y : Nat} : ∀ {l : List Ent}, pairsX T N L x y l = true → l.Pairwise fun p q => pairX T N L x y p q = true
 | [], _ => List.Pairwise.nil
 | p :: r, h => by
  simp only [pairsX, Bool.and_eq_true, List.all_eq_true] at h
  exact List.pairwise_cons.2 ⟨h.1, jJ h.2⟩
def drawX (T : TT) (N : Nat) (L : List Oper) (x y : Nat) (ord : List Nat) : Bool :=
 Nat.beq ord.length L.length && ord.all (fun i => Nat.blt i L.length) && nodupB ord && coverB ord L.length && downB 0 L && pairsX T N L x y (pick L ord)
theorem Qfi (hS : Sym P T) {x y : Nat} {ord : List Nat} (hc : drawX T N L x y ord = true) (h : SL P T L K N G (pick L ord) E U M) {σ : List Nat} (hσ : σ.Perm (List.range L.length)) (hx : σ.idxOf x < σ.idxOf y)
  (hall : ∀ q ∈ σ, ∀ o, L[q]? = some o → ∀ e ∈ o.after, Region.binds .any e = true → σ.idxOf e.on < σ.idxOf q) {a : Act} {w : World} (ha : Has a N E) (hm : Mem G U M w) : wpOps P L.toArray K σ a w := by
 simp only [drawX, Bool.and_eq_true, List.all_eq_true] at hc
 obtain ⟨⟨⟨⟨⟨h1, h2⟩, h3⟩, h6⟩, h4⟩, h5⟩ := hc
 have e1 := Nat.eq_of_beq_eq_true h1
 have h2' : ∀ i ∈ ord, i < L.length := fun i hi => Nat.le_of_ble_eq_true (h2 i hi)
 have hmap := yn h2'
 have hnd := YP h3
 have hσn : σ.Nodup := hσ.nodup_iff.2 List.nodup_range
 refine QdV hS σ (pick L ord) E U M a w ?_ hσn ql ?_ h ha hm
 ·rw [hmap]
  refine List.Perm.trans ?_ hσ.symm
  refine (List.perm_ext_iff_of_nodup hnd List.nodup_range).2 fun i => ?_
  rw [List.mem_range]
  exact ⟨h2' i, YR h6 i⟩
 ·refine (jJ h5).imp_of_mem ?_
  intro p q hp hq hpq
  simp only [pairX, pairB, Bool.or_eq_true, Bool.and_eq_true] at hpq
  have hqm : q.2.1 ∈ σ := by
   rw [hσ.mem_iff, List.mem_range]
   exact (List.getElem?_eq_some_iff.1 (ql _ hq).2).1
  rcases hpq with (h | h) | ⟨h, h'⟩
  ·exact .inl h
  ·refine .inr (qi hall _ _ ?_ h)
   rw [hσ.mem_iff, List.mem_range]
   exact (List.getElem?_eq_some_iff.1 (ql _ hq).2).1
  ·have k1 : σ.idxOf p.2.1 ≤ σ.idxOf x := by
    rcases h with h | h
    ·rw [Nat.eq_of_beq_eq_true h]; exact Nat.le_refl _
    ·exact Nat.le_of_lt (qi hall _ _ (List.idxOf_lt_length_iff.1 (Nat.lt_of_lt_of_le hx (List.idxOf_le_length ..))) h)
   have k2 : σ.idxOf y ≤ σ.idxOf q.2.1 := by
    rcases h' with h | h
    ·rw [Nat.eq_of_beq_eq_true h]; exact Nat.le_refl _
    ·exact Nat.le_of_lt (qi hall _ _ hqm h)
   refine .inr ?_
   omega
theorem yE {id : Nat} (x y : Nat) (ord1 ord2 : List Nat) (hS : Sym P T) (hxy : (Nat.blt x L.length && Nat.blt y L.length && !Nat.beq x y) = true) (hc1 : drawX T N L x y ord1 = true) (hc2 : drawX T N L y x ord2 = true)
  (h1 : SL P T L K N G (pick L ord1) E U M) (h2 : SL P T L K N G (pick L ord2) E U M) : St P K N G (.region id L.toArray true) E U M := by
 have hd : downB 0 L = true := by
  simp only [drawX, Bool.and_eq_true] at hc1
  exact hc1.1.2
 simp only [Bool.and_eq_true, Bool.not_eq_true'] at hxy
 obtain ⟨⟨hx, hy⟩, hne⟩ := hxy
 have hx := Nat.le_of_ble_eq_true hx
 have hy := Nat.le_of_ble_eq_true hy
 have hne : x ≠ y := fun e => by subst e; simp at hne
 refine ⟨fun a w ha hm => wp_region_draw fun t => ?_⟩
 simp only [Region.schedule, hS.mixed, Bool.true_or, if_true, Region.linearise, List.size_toArray]
 obtain ⟨hp, hall⟩ := QeC (L := L) (fun i o hi e he hb => by have := VD hd i o hi e he hb; omega) L.length t (List.range L.length) (Array.replicate L.length false) (by simp) List.nodup_range (by simp)
  (fun i hi => List.mem_range.1 hi) (fun i hi => by simp [hi])
 generalize Region.linearise.go .any L.toArray L.length t (Array.replicate L.length false) [] = σ at *
 have hall' : ∀ q ∈ σ, ∀ o, L[q]? = some o → ∀ e ∈ o.after, Region.binds .any e = true → σ.idxOf e.on < σ.idxOf q := fun q hq o ho e he hb => by
  rcases hall q (hp.mem_iff.1 hq) o ho e he hb with h | h
  ·simp [Array.getD_eq_getD_getElem?, Array.getElem?_replicate] at h
   split at h <;> simp at h
  ·exact h
 have hxm : x ∈ σ := hp.mem_iff.2 (List.mem_range.2 hx)
 have hym : y ∈ σ := hp.mem_iff.2 (List.mem_range.2 hy)
 have hine : σ.idxOf x ≠ σ.idxOf y := fun e => by
  have e1 := List.getElem_idxOf (List.idxOf_lt_length_iff.2 hxm)
  have e2 := List.getElem_idxOf (List.idxOf_lt_length_iff.2 hym)
  simp only [e] at e1
  exact hne (e1.symm.trans e2)
 rcases Nat.lt_or_gt_of_ne hine with h | h
 ·exact Qfi hS hc1 h1 hp h hall' ha (hm.drawn _)
 ·exact Qfi hS hc2 h2 hp h hall' ha (hm.drawn _)
end Go.Hp
