import Derived.WalkKit
open Lean Elab Tactic Meta
namespace Go
/-- print goal(s) without hyps which mention code -/
elab "tgt" : tactic => do
  let gs ← getGoals
  let mut i : Nat := 0
  for g in gs do
    g.withContext do
      let mut m : MessageData := m!"[{i}] "
      for d in ← getLCtx do
        if d.isImplementationDetail then continue
        let t ← instantiateMVars d.type
        if t.isAppOf ``World || (t.find? (fun e => e.isConstOf ``Code || e.isConstOf ``Oper)).isSome then continue
        if (t.find? (fun e => e.isAppOf ``Code.wp || e.isAppOf ``wpList || e.isAppOf ``bodyPost || e.isAppOf ``Oper.mk)).isSome then continue
        if d.userName.hasMacroScopes && !(← isProp t) then continue
        m := m ++ m!"{d.userName} : {t}\n"
      let t := (← instantiateMVars (← g.getType)).consumeMData
      -- for wp goals print head and act only
      if t.isAppOf ``Code.wp then
        let a := t.getAppArgs
        m := m ++ m!"⊢ Code.wp code … \n act := {a[3]!}\n world := {a[4]!}"
      else if t.isAppOf ``wpList then
        let a := t.getAppArgs
        let l := a[3]!
        let o := if l.isAppOf ``List.cons then l.getAppArgs[1]! else l
        m := m ++ m!"⊢ wpList first := {o} \n act := {a[4]!}\n world := {a[5]!}"
      else
        m := m ++ m!"⊢ {t}"
      logInfo m
    i := i + 1
elab "tgt1" : tactic => do
  let g ← getMainGoal
  g.withContext do
    let t := (← instantiateMVars (← g.getType)).consumeMData
    let f := t.getAppFn
    logInfo m!"head {f}; last args {t.getAppArgs.toList.reverse.take 3}"
end Go
