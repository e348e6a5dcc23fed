/- For looking alone: never in a claim. -/
import Derived.Test.YtpigpikhjlmdoaaGreatM1
open Lean Elab Tactic Meta
elab "dbg" : tactic => do
  for g in ← getGoals do
    g.withContext do
      let t := (← instantiateMVars (← g.getType)).consumeMData
      let n := t.getAppFn.constName?.getD `none
      let a := t.getAppArgs
      let mut m : MessageData := m!"{n}"
      if n == `Go.Hp.SL then
        let l := a[6]!
        let hd := if l.isAppOfArity ``List.cons 3 then m!"{l.getAppArgs[1]!}" else m!"{l}"
        m := m!"SL\n  next: {hd}\n  E: {a[7]!}\n  U: {a[8]!}\n  M: {a[9]!}"
      else if n == `Go.Hp.St then
        let c := a[4]!
        m := m!"St {c.getAppFn.constName?} {if c.isAppOf ``Go.Code.cond then m!"{c.getAppArgs[0]!}" else m!""}\n  E: {a[5]!}\n  U: {a[6]!}\n  M: {a[7]!}"
      else if n == `Go.Hp.SK then
        m := m!"SK K={a[0]!.getAppFn.constName?} e={a[3]!}\n  E: {a[4]!}\n  U: {a[5]!}\n  M: {a[6]!}"
      else m := m!"{t}"
      let mut hs : Array MessageData := #[]
      for d in ← getLCtx do
        if d.isImplementationDetail then continue
        let ty ← instantiateMVars d.type
        unless ← isProp ty do continue
        hs := hs.push m!"{d.userName} : {ty}"
      logInfo m!"{MessageData.joinSep hs.toList "\n"}\n⊢ {m}"
