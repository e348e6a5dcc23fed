/- Calls that write the caller's own memory; some more arithmetic. -/
import Derived.Test.YtcakainebimmdaaHa
namespace Go.Hp

variable {P : Program} {T : TT} {K : Kont} {N : Nat} {G : World} {E : Env} {U : UH} {M : MH} {L : List Oper} {l : List Ent} {f : Bool} {i : Nat} {o : Oper}

/-- A contract of a call that may write what the caller owns: it tells what is owned then. -/
structure Cx (P : Program) (f : Nat) (args : List Value) (G : World) (U : UH) (M : MH) (R : Value → UH → MH → Prop) : Prop where
  callable : callable P f = true
  calls : ∀ w, Mem G U M w → Calls P f args.toArray w fun e w' => ∃ v U' M', e = .returned v ∧ ULe U U' ∧ Mem G U' M' w' ∧ R v U' M'

theorem Cx.mono {f : Nat} {args : List Value} {R R' : Value → UH → MH → Prop} (h : Cx P f args G U M R) (hr : ∀ v U' M', ULe U U' → R v U' M' → R' v U' M') : Cx P f args G U M R' :=
  ⟨h.callable, fun w hw => (h.calls w hw).mono fun _ _ ⟨v, U', D, h1, h2, h3, h4⟩ => ⟨v, U', D, h1, h2, h3, hr _ _ _ h2 h4⟩⟩

/-- The owned memory may be named in another order. -/
theorem Cx.perm {f : Nat} {args : List Value} {M0 : MH} {R : Value → UH → MH → Prop} (h : Cx P f args G U M0 R) (hp : M.Perm M0) : Cx P f args G U M R :=
  ⟨h.callable, fun w hw => h.calls w (hw.perm hp)⟩
theorem Cx.out {f : Nat} {args : List Value} {R R' : Value → UH → MH → Prop} (h : Cx P f args G U M R) (hr : ∀ v U' M', ULe U U' → R v U' M' → ∃ M'', M'.Perm M'' ∧ R' v U' M'') : Cx P f args G U M R' :=
  ⟨h.callable, fun w hw => (h.calls w hw).mono fun _ _ ⟨v, U', D, h1, h2, h3, h4⟩ => by
    obtain ⟨M'', h5, h6⟩ := hr _ _ _ h2 h4
    exact ⟨v, U', M'', h1, h2, h3.perm h5, h6⟩⟩

theorem sl_callC {d c : Nat} {args : List Operand} {tys : Array TypeId} {vs : List Value} {R : Value → UH → MH → Prop} (ho : o.op = .call { callee := .value (.func c), args := args.toArray, argTypes := tys })
    (hv : evs E args = some vs) (hk : f = false) (hd : o.dst = some d) (hN : Nat.blt d N = true) (hg : gok L E o.guard = some true) (hc : Cx P c vs G U M R)
    (h : ∀ v U' M', ULe U U' → R v U' M' → SL P T L K N G l ((d, v) :: E) U' M') : SL P T L K N G ((f, i, o) :: l) E U M :=
  sl_callX ho hv hk hd hN hg hc.callable hc.calls h

theorem cx_of_st {f : Nat} {fn : Func} {c : Code} {args : List Value} {R : Value → UH → MH → Prop} (hf : P.funcs[f]? = some fn) (hb : fn.body = some c) (hN : fn.ntmps = N) (hname : (fn.name == "runtime.NumGoroutine") = false)
    (hle : Nat.ble args.length N = true)
    (h : St P (bodyPost P fn fun e w' => ∃ v U' M', e = .returned v ∧ ULe U U' ∧ Mem G U' M' w' ∧ R v U' M') N G c (argEnv 0 args) U M) : Cx P f args G U M R := by
  refine ⟨by simp [Hp.callable, hf, hb, hname], fun w hw => calls_of_wp hf hb (h.run _ w ?_ hw)⟩
  have hle' := Nat.le_of_ble_eq_true hle
  refine ⟨rfl, by simp [hN]; omega, fun t v hv => ?_⟩
  obtain ⟨_, h2⟩ := lk_argEnv args 0 t v hv
  simp only [Nat.sub_zero] at h2
  have hlt := (List.getElem?_eq_some_iff.1 h2).1
  rw [Array.getElem?_append_left (by simpa using hlt)]
  simpa using h2

theorem sk_retX {fn : Func} {rs : List ResultVar} {vs : List Value} {R : Value → UH → MH → Prop} {U0 : UH} {M' : MH} (hS : Sym P T) (hrs : fn.results = rs.toArray) (h : RVs T E M rs vs) (hU : ULe U0 U) (hM : M'.Sublist M) {e : Exit} (he : e = .ret ∨ e = .normal) (hR : R (tup vs) U M') :
    SK (bodyPost P fn fun e w' => ∃ v U' M', e = .returned v ∧ ULe U0 U' ∧ Mem G U' M' w' ∧ R v U' M') N G e E U M := by
  refine ⟨fun a w ha hw => ?_⟩
  have hrun := results_run hS hrs h ha hw
  have hm := hw.anti (ULe.refl U) hM
  rcases he with rfl | rfl
  · exact ⟨ha.defers, _, hrun, _, U, M', rfl, hU, hm, hR⟩
  · exact ⟨ha.defers, _, hrun, _, U, M', rfl, hU, hm, hR⟩

/-- The low half and the high half of a word. -/
theorem yl_orlo {ty yt : Nat} {x y : Operand} {a b : Int} {m n : Nat} (ho : o.op = .binOp .or ty x y yt) (hx : ev E x = some (.int .u64 a)) (hy : ev E y = some (.int .u64 b)) (ha : a = (n : Int)) (hb : b = (m : Int) * 4294967296) (hm : m < 4294967296) (hn : n < 4294967296) :
    Yl P N G o E U M (.int .u64 ((m * 4294967296 + n : Nat) : Int)) := by
  refine yl_bin ho hx hy (funext fun w => ?_)
  subst ha hb
  have h1 : (BitVec.ofInt 64 (n : Int) ||| BitVec.ofInt 64 ((m : Int) * 4294967296)).toNat = m * 4294967296 + n := by
    have e : ((m : Int) * 4294967296) = ((m * 4294967296 : Nat) : Int) := by omega
    rw [e, BitVec.ofInt_natCast, BitVec.ofInt_natCast, BitVec.toNat_or, BitVec.toNat_ofNat, BitVec.toNat_ofNat, Nat.mod_eq_of_lt (by omega), Nat.mod_eq_of_lt (by omega), Nat.or_comm]
    have := Nat.shiftLeft_add_eq_or_of_lt (i := 32) (b := n) (by omega) m
    rw [Nat.shiftLeft_eq] at this
    exact this.symm
  simp only [binOp, ne_eq, not_true_eq_false, if_false, Op.intBits, IntKind.bits]
  show Result.ok (Value.int .u64 (IntKind.u64.wrap (((BitVec.ofInt 64 (n : Int) ||| BitVec.ofInt 64 ((m : Int) * 4294967296)).toNat : Nat) : Int))) w = _
  rw [h1, IntWalk.u64_in _ (by omega)]

/-- Sums, differences and products that may wrap. -/
theorem yl_wrap {op : BinOp} {ty yt : Nat} {x y : Operand} {k : IntKind} {a b r : Int} (ho : o.op = .binOp op ty x y yt) (hx : ev E x = some (.int k a)) (hy : ev E y = some (.int k b))
    (hr : ar op a b = some r) {s : Int} (hs : k.wrap r = s) : Yl P N G o E U M (.int k s) := by
  refine yl_bin ho hx hy (funext fun w => ?_)
  subst hs
  cases op <;> simp only [ar, Option.some.injEq, reduceCtorEq] at hr <;> subst hr <;> exact intOp_run rfl rfl

end Go.Hp
