/- Calls of function values that write what the caller owns. No condition. -/
import Derived.Test.YtjfkodlddladhaaGreatHk
import Derived.Test.YtjfkodlddladhaaGreatM1
namespace Go.Hp
variable {P : Program} {T : TT} {K : Kont} {N : Nat} {G : World} {E : Env} {U U' : UH} {M M' : MH} {L : List Oper} {l : List Ent} {f : Bool} {i : Nat} {o : Oper}
theorem Qdj {d c : Nat} {x : Operand} {args : List Operand} {tys : Array TypeId} {vs cs : List Value} {R : Value → UH → MH → Prop} (ho : o.op = .call { callee := .value x, args := args.toArray, argTypes := tys })
  (hx : ev E x = some (.func (.func c) #[] cs.toArray)) (hv : evs E args = some vs) (hk : f = false) (hd : o.dst = some d) (hN : Nat.blt d N = true) (hg : gok L E o.guard = some true) (hc : Cx P c (vs ++ cs) G U M R)
  (h : ∀ v U' M', ULe U U' → R v U' M' → SL P T L K N G l ((d, v) :: E) U' M') : SL P T L K N G ((f, i, o) :: l) E U M := by
 refine .x (R := fun v U' M' => ULe U U' ∧ R v U' M') (.inl hk) (fun e he => by rw [hd] at he; cases he; exact hN) (fun a w ha hm => ?_) (fun v U' M' hR => ?_)
 ·unfold wpV
  rw [Je hg ha, if_pos rfl, QcJ ho hx hv hc.callable ha w]
  refine (hc.calls w hm).mono ?_
  rintro e w' ⟨v, U', M', rfl, h1, h2, h3⟩
  exact ⟨v, rfl, U', M', h2, h1, h3⟩
 ·rw [hd]; exact h v U' M' hR.1 hR.2
end Go.Hp
