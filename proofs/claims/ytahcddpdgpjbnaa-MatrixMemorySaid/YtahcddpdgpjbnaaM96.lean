/- Texts of this seat's own, merged: each begins with its own remark. -/
import Derived.Test.YtahcddpdgpjbnaaM1
/- Function values: made, and called. No condition. -/
namespace Go.Hp
variable {P:Program} {T:TT} {K:Kont} {N:Nat} {G:World} {E:Env} {U U':UH} {M M':MH} {L:List Oper} {l:List Ent} {f:Bool} {i:Nat} {o:Oper}
theorem Qbp {c:Nat} {x:Operand} {args:List Operand} {tys:Array TypeId} {vs cs:List Value} (ho:o.op = .call { callee := .value x,args:=args.toArray,argTypes:=tys })
  (hx:ev E x=some (.func (.func c) #[] cs.toArray)) (hv:evs E args=some vs) (hc:callable P c=true) {a:Act} (ha:Has a N E) (w:World):(execOp a.eval o).run P w = .ok (.enter c (vs++cs).toArray) w:=by
 have:=VG hc (vs++cs).toArray w
 simp only [execOp,ho,resolve,List.map_toArray,ha.evals hv,ha.eval hx,Deferred.ofValue,Sem.run_bind,Sem.run_pure,Result.andThen_ok,invoke]
 simpa using this
theorem QcS {d c:Nat} {x:Operand} {args:List Operand} {tys:Array TypeId} {vs cs:List Value} {R:Value→UH→MH→Prop} (ho:o.op = .call { callee := .value x,args:=args.toArray,argTypes:=tys })
  (hx:ev E x=some (.func (.func c) #[] cs.toArray)) (hv:evs E args=some vs) (hk:cB f T o=true) (hd:o.dst=some d) (hN:Nat.blt d N=true) (hg:gok L E o.guard=some true) (hc:∀ M2,Ct P c (vs++cs) G U (M2++M) R)
  (h:∀ v U' D,ULe U U'→R v U' D→SL P T L K N G l ((d,v)::E) U' (D++M)):SL P T L K N G ((f,i,o)::l) E U M:=by
 refine .gr (R:=R) (yA hk) hd hN (fun M2 a w ha hm=>?_) h
 unfold wpV
 rw [QP hg ha,if_pos rfl,Qbp ho hx hv (hc []).callable ha w]
 refine ((hc M2).calls w hm).mono ?_
 rintro e w' ⟨v,U',D,rfl,h1,h2,h3⟩
 exact ⟨v,rfl,U',D,h1,h2,h3⟩
theorem Ct.perm {c:Nat} {args:List Value} {R:Value→UH→MH→Prop} (h:Ct P c args G U M' R) (hM:M.Perm M'):Ct P c args G U M R :=
 ⟨h.callable,fun w hw=>(h.calls w (hw.perm hM)).mono fun _ _ ⟨v,U',D,h1,h2,h3,h4⟩=>⟨v,U',D,h1,h2,h3.perm (hM.symm.append_left D),h4⟩⟩
end Go.Hp

/- Calls of function values that write what the caller owns. No condition. -/
namespace Go.Hp
variable {P:Program} {T:TT} {K:Kont} {N:Nat} {G:World} {E:Env} {U U':UH} {M M':MH} {L:List Oper} {l:List Ent} {f:Bool} {i:Nat} {o:Oper}
end Go.Hp
