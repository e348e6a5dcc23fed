/- Function values: made, and called. No condition. -/
import Derived.Test.YtjfkodlddladhaaGreatM1
namespace Go.Hp
variable {P : Program} {T : TT} {K : Kont} {N : Nat} {G : World} {E : Env} {U U' : UH} {M M' : MH} {L : List Oper} {l : List Ent} {f : Bool} {i : Nat} {o : Oper}
theorem Qba {c : Nat} {xs : List Operand} {vs : List Value} (ho : o.op = .makeFunc (.func c) #[] xs.toArray) (hv : evs E xs = some vs) : Yl P N G o E U M (.func (.func c) #[] vs.toArray) := by
 refine ⟨fun a w ha hw => ?_⟩
 simp only [execOp, ho, Instr.makeFunc, List.map_toArray, ha.evals hv]
 rfl
theorem QcJ {c : Nat} {x : Operand} {args : List Operand} {tys : Array TypeId} {vs cs : List Value} (ho : o.op = .call { callee := .value x, args := args.toArray, argTypes := tys })
  (hx : ev E x = some (.func (.func c) #[] cs.toArray)) (hv : evs E args = some vs) (hc : callable P c = true) {a : Act} (ha : Has a N E) (w : World) : (execOp a.eval o).run P w = .ok (.enter c (vs ++ cs).toArray) w := by
 have := qX hc (vs ++ cs).toArray w
 simp only [execOp, ho, resolve, List.map_toArray, ha.evals hv, ha.eval hx, Deferred.ofValue, Sem.run_bind, Sem.run_pure, Result.andThen_ok, invoke]
 simpa using this
theorem Ct.perm {c : Nat} {args : List Value} {R : Value → UH → MH → Prop} (h : Ct P c args G U M' R) (hM : M.Perm M') : Ct P c args G U M R :=
 ⟨h.callable, fun w hw => (h.calls w (hw.perm hM)).mono fun _ _ ⟨v, U', D, h1, h2, h3, h4⟩ => ⟨v, U', D, h1, h2, h3.perm (hM.symm.append_left D), h4⟩⟩
end Go.Hp
