/- go_inv: the tactic for wp_region_inv: one goal for each operation, taken in order; values are found by the walk (holes), rows of bytes are told by number. -/
import Derived.Test.YtbjpbnflioiccaaR
import Derived.Deep.RegionHeld3
namespace Go.Proofs.Ytbjpbnflioiccaa
open Go.RowKit
set_option linter.unusedVariables false
set_option linter.unusedSimpArgs false

def nth {α : Type} : List α → Nat → α → α
  | [], _, d => d
  | x :: _, 0, _ => x
  | _ :: l, n + 1, d => nth l n d
def Facts (base : Nat) (rows : List Nat) (vals : List Value) (bs : List (List UInt8)) (i : Nat) (v : Value) (W : World) : Prop :=
  match rows.contains i with
  | true => OB W base v (nth bs i [])
  | false => v = nth vals i undef
def eatOf (pars : List (Nat × Nat)) (p : Nat) : Nat := match pars.find? (·.1 == p) with
  | some x => x.2
  | none => 1000000
def parOf (pars : List (Nat × Nat)) (i : Nat) : Option Nat := (pars.find? (·.2 == i)).map (·.1)

theorem Facts.stab {base : Nat} {rows : List Nat} {vals : List Value} {bs : List (List UInt8)} {w : World} (hb : base = w.heap.size) :
    ∀ j v W W' rw, Facts base rows vals bs j v W → W.grownBy W' rw → (rows.contains j = true → v.ownBlock = none ∨ v.ownBlock ≠ rw) → (∀ k, rw = some k → w.heap.size ≤ k) → Below w.heap.size w W → Facts base rows vals bs j v W' := by
  intro j v W W' rw h hg hne _ _
  unfold Facts at *
  cases hr : rows.contains j with
  | true => rw [hr] at h hne; exact OB.other h hg (hne rfl)
  | false => rw [hr] at h; exact h
theorem Facts.bound {base : Nat} {rows : List Nat} {vals : List Value} {bs : List (List UInt8)} {w : World} (hb : base = w.heap.size) :
    ∀ j v W, rows.contains j = true → Facts base rows vals bs j v W → ∀ k, v.ownBlock = some k → w.heap.size ≤ k ∧ k < W.heap.size := by
  intro j v W hr h k hk
  unfold Facts at h
  rw [hr] at h
  subst hb
  exact World.ownsRow.lt h k hk

theorem wp_region_facts {P : Program} {ops : Array Oper} {Q : Exit → Act → World → Prop} {id : Nat} {a : Act} {w : World} (mk : (Nat → Value) → Act) (u0 : Nat → Value) (rows : List Nat) (pars : List (Nat × Nat)) (vals : List Value) (bs : List (List UInt8)) (L : List Oper)
    (hm : P.follows .mixedOrders = true) (ha : a = mk u0) (hL : ops.toList = L)
    (hst : statOK ops (fun i => rows.contains i) (eatOf pars) (parOf pars) = true)
    (hput : OpsOK (PutOK mk) 0 L)
    (hops : OpsOK (OpOK P ops Q mk (Facts w.heap.size rows vals bs) (fun i => rows.contains i) (eatOf pars) (parOf pars) w) 0 L)
    (hend : ∀ u W, Below w.heap.size w W → (∀ i, i < ops.size → ops.size ≤ eatOf pars i → Facts w.heap.size rows vals bs i (u i) W) → Q .normal (mk u) W) :
    (Code.region id ops true).wp P Q a w :=
  wp_region_inv mk u0 _ _ _ _ L hm ha hL hst (Facts.stab rfl) (Facts.bound rfl) hput hops hend

theorem dep_of {ops : Array Oper} {o : Oper} {T : Nat → Value → World → Prop} {eat : Nat → Nat} {u : Nat → Value} {W : World} {i : Nat}
    (hd : ∀ e ∈ o.after, Region.binds .any e = true → ops.size ≤ eat e.on ∨ eat e.on = i → T e.on (u e.on) W) (d : Nat)
    (h : (o.after.any fun e => Region.binds .any e && e.on == d) = true) (h2 : (decide (ops.size ≤ eat d) || eat d == i) = true) : T d (u d) W := by
  obtain ⟨e, he, hb⟩ := Array.any_eq_true'.1 h
  simp only [Bool.and_eq_true, beq_iff_eq] at hb
  obtain ⟨hb, rfl⟩ := hb
  exact hd e he hb (by simpa using h2)
open Lean Elab Tactic Meta in
def litList (e : Lean.Expr) : MetaM (Array Lean.Expr) := do
  let mut e ← instantiateMVars e
  if e.isAppOfArity ``List.toArray 2 then e := e.appArg!
  let mut out := #[]
  repeat
    e := e.consumeMData
    if e.isAppOfArity ``List.cons 3 then
      out := out.push e.appFn!.appArg!
      e := e.appArg!
    else break
  return out
open Lean Elab Tactic Meta in
/-- The number of the slot that an operation fills, and the numbers of the operations behind which it comes. -/
def operDst (o : Lean.Expr) : MetaM (Option Nat) := do
  let o ← whnfR o
  let d := o.getAppArgs[0]!.consumeMData
  if d.isAppOfArity ``Option.some 2 then
    match (← whnf d.appArg!) with
    | .lit (.natVal n) => return some n
    | e => return (← evalNat e)
  else return none
open Lean Elab Tactic Meta in
def operAfter (o : Lean.Expr) : MetaM (Array Nat) := do
  let o ← whnfR o
  let mut out := #[]
  for arg in o.getAppArgs do
    let t ← whnfR (← inferType arg)
    if t.isAppOf ``Array then
      for e in (← litList arg) do
        let e ← whnfR e
        match (← whnf e.getAppArgs[0]!) with
        | .lit (.natVal n) => unless out.contains n do out := out.push n
        | x => if let some n ← evalNat x then unless out.contains n do out := out.push n
  return out


open Lean Elab Tactic Meta in
/-- go_inv [rows] [(row, eater), ..] (arms): at '(Code.region id ops true).wp P Q a w'. One goal an operation; the arms see u, W, K, hB : Below w.heap.size w W, hK, and a fact 'hI' for each operation I that came ahead of it (its value, or OB of its row). What is left: the end, with u, W, hB, and the facts. -/
elab "go_inv " "[" rows:num,* "] " "[" prs:(num " => " num),* "] " "(" arms:tacticSeq ")" : tactic => withMainContext do
  let rows : Array Nat := rows.getElems.map (·.getNat)
  let prs : Array (Nat × Nat) := prs.getElems.map fun p => (p.raw[0]!.toNat, p.raw[2]!.toNat)
  let t := (← instantiateMVars (← getMainTarget)).consumeMData
  let args := t.getAppArgs
  -- Code.wp P Q (region) a w, whatever the order: found by their types
  let mut code? : Option Lean.Expr := none
  let mut act? : Option Lean.Expr := none
  for x in args do
    let x ← instantiateMVars x
    let ty ← whnfR (← inferType x)
    if ty.isConstOf ``Go.Act then act? := some x
    if ty.isConstOf ``Go.Code then code? := some x
  let some code := code? | throwError "go_inv: no code in the goal"
  let some act := act? | throwError "go_inv: no act in the goal"
  let code ← whnfR code
  let opsE := code.getAppArgs[1]!
  let ops ← litList opsE
  let act ← whnfR act
  let tmps ← litList act.getAppArgs[0]!
  let defers := act.getAppArgs[1]!
  let n := ops.size
  let valTy := mkConst ``Go.Value
  let bsTy ← mkAppM ``List #[mkConst ``UInt8]
  let natTy := mkConst ``Nat
  let dsts ← (ops.mapM operDst : MetaM _)
  -- mk, u0
  let undefE := mkConst ``Go.undef
  let mk ← withLocalDeclD `u (← mkArrow natTy valTy) fun u => do
    let mut ts := tmps
    for i in [0:n] do
      if let some d := dsts[i]! then ts := ts.set! d (mkApp u (mkNatLit i))
    let arr ← mkAppM ``List.toArray #[← mkListLit valTy ts.toList]
    mkLambdaFVars #[u] (mkApp2 (mkConst ``Go.Act.mk) arr defers)
  let u0l ← mkListLit valTy ((List.range n).map fun i => match dsts[i]! with | some d => tmps[d]! | none => undefE)
  let u0 ← withLocalDeclD `i natTy fun i => do mkLambdaFVars #[i] (← mkAppM ``nth #[u0l, i, undefE])
  -- holes
  let mut vals : Array Lean.Expr := #[]
  let mut bs : Array Lean.Expr := #[]
  for i in [0:n] do
    if rows.contains i then
      vals := vals.push undefE
      bs := bs.push (← mkFreshExprMVar bsTy .natural)
    else
      vals := vals.push (← mkFreshExprMVar valTy .natural)
      bs := bs.push (← mkListLit (mkConst ``UInt8) [])
  let valsE ← mkListLit valTy vals.toList
  let bsE ← mkListLit bsTy bs.toList
  let rowsE ← mkListLit natTy (rows.toList.map mkNatLit)
  let prTy ← mkAppM ``Prod #[natTy, natTy]
  let prsE ← mkListLit prTy (← prs.toList.mapM fun (a, b) => mkAppM ``Prod.mk #[mkNatLit a, mkNatLit b])
  let mkS ← Term.exprToSyntax mk
  let u0S ← Term.exprToSyntax u0
  let rowsS ← Term.exprToSyntax rowsE
  let prsS ← Term.exprToSyntax prsE
  let valsS ← Term.exprToSyntax valsE
  let bsS ← Term.exprToSyntax bsE
  let lS ← Term.exprToSyntax (← mkListLit (mkConst ``Go.Oper) ops.toList)
  evalTactic (← `(tactic| refine wp_region_facts $mkS $u0S $rowsS $prsS $valsS $bsS $lS (by rfl) rfl rfl (by kernel_rfl) ?_ ?_ ?_))
  let [gput, gops, gend] ← getGoals | throwError "go_inv: three goals expected"
  setGoals [gput]
  for i in [0:n] do
    evalTactic (← `(tactic| refine OpsOK.cons (fun _ _ => rfl) ?_))
  evalTactic (← `(tactic| exact OpsOK.nil))
  let id (s : String) : Ident := mkIdent (Name.mkSimple s)
  setGoals [gops]
  for i in [0:n] do
    evalTactic (← `(tactic| refine OpsOK.cons ?_ ?_))
    let [g, rest] ← getGoals | throwError "go_inv: two goals expected"
    setGoals [g]
    evalTactic (← `(tactic| intro $(id "u") $(id "W") $(id "K") $(id "hB") $(id "hd") $(id "hK")))
    let mut lems : Array (TSyntax `Lean.Parser.Tactic.simpLemma) := #[]
    for d in (← operAfter ops[i]!) do
      let free := match prs.find? (·.1 == d) with | some (_, e) => e == i | none => true
      if free then
        let h := id s!"h{d}"
        evalTactic (← `(tactic| have $h := dep_of $(id "hd") $(quote d) (by kernel_rfl) (by kernel_rfl)))
        if rows.contains d then
          let b ← Term.exprToSyntax bs[d]!
          evalTactic (← `(tactic| change OB $(id "W") _ ($(id "u") $(quote d)) $b at $h:ident))
        else
          let b ← Term.exprToSyntax vals[d]!
          evalTactic (← `(tactic| change ($(id "u") $(quote d)) = $b at $h:ident))
          lems := lems.push (← `(Lean.Parser.Tactic.simpLemma| $h:ident))
    let (u, W, K, hB, hK) := (id "u", id "W", id "K", id "hB", id "hK")
    let isRow := rows.contains i
    let par := (prs.find? (·.2 == i)).map (·.1)
    let m ← Term.exprToSyntax (if isRow then bs[i]! else vals[i]!)
    match isRow, par with
    | false, _ => evalTactic (← `(tactic| replace $hK : Hid (∀ v W', v = $m → Below ($W).heap.size $W W' → $K (Act.put ($mkS $u) _ v) W') := fun v W' h1 h2 => $hK v W' h1 ⟨h2, fun h => nomatch h⟩))
    | true, none => evalTactic (← `(tactic| replace $hK : Hid (∀ v W', OB W' ($W).heap.size v $m → Below ($W).heap.size $W W' → $K (Act.put ($mkS $u) _ v) W') := fun v W' h1 h2 => $hK v W' (OB.mono h1 (Below.size $hB)) ⟨h2, fun _ k hk => OB.base_ h1 k hk⟩))
    | true, some p => evalTactic (← `(tactic| replace $hK : Hid (∀ v W', OB W' _ v $m → World.grownBy $W W' ($u $(quote p)).ownBlock → AtRow ($W).heap.size ($u $(quote p)) v → $K (Act.put ($mkS $u) _ v) W') := fun v W' h1 h2 h3 => $hK v W' h1 ⟨h2, h3⟩))
    evalTactic (← `(tactic| clear $(id "hd")))
    evalTactic (← `(tactic| try simp only [Act.put, List.setIfInBounds_toArray, List.set_cons_zero, List.set_cons_succ, $lems,*] at $hK:ident ⊢))
    -- the act's own projection stands in the condition, for the laws that are handed the goal whole
    do
      let g ← getMainGoal
      let tgt := (← instantiateMVars (← g.getType)).consumeMData
      if tgt.isAppOf ``ite then
        let ar := tgt.getAppArgs
        let mut actE? : Option Lean.Expr := none
        for x in ar[3]!.consumeMData.getAppArgs do
          if x.isAppOf ``Go.Act.mk then actE? := some x
        if let some actE := actE? then
          let ts := actE.getAppArgs[0]!
          let pr := mkApp (mkConst ``Go.Act.tmps) actE
          let f (e : Lean.Expr) : Lean.Expr := e.replace fun x => if x == ts then some pr else none
          let tgt' := mkAppN tgt.getAppFn #[ar[0]!, f ar[1]!, f ar[2]!, ar[3]!, ar[4]!]
          replaceMainGoal [← g.replaceTargetDefEq tgt']
    let close : TacticM Unit := do
      if (← getGoals).isEmpty then return
      match isRow, par with
      | false, _ => evalTactic (← `(tactic| first
          | exact Hid.out $hK _ _ rfl (Below.refl _ _)
          | exact Hid.out $hK _ _ rfl (by assumption)
          | exact Hid.out $hK _ _ rfl (by repeat' (first | assumption | exact Below.refl _ _ | refine below_alloc' ?_ _ | refine Below.drew ?_))))
      | true, none => evalTactic (← `(tactic| first
          | exact Hid.out $hK _ _ (by assumption) (by assumption)
          | exact Hid.out $hK _ _ (OB.empty _ _ (Nat.le_refl _)) (below_alloc' (Below.refl _ _) _)))
      | true, some _ => evalTactic (← `(tactic| exact Hid.out $hK _ _ (by assumption) (by assumption) (by assumption)))
    let isK : TacticM Bool := do
      if (← getGoals).isEmpty then return true
      return (← instantiateMVars (← getMainTarget)).consumeMData.getAppFn.isFVar
    let heads := match (opHead opsE i) with | some nm => nm | none => .anonymous
    let sv ← saveState
    let mut word : MessageData := m!""
    let mut done := false
    if heads == ``Go.Op.call || heads == ``Go.Op.buildSlice || heads == ``Go.Op.convert || heads == ``Go.Op.alloc then
      try
        underBudget (evalTactic arms)
        unless (← isK) do throwError "what is left is not K:\n{← getGoals}"
        close
        done := true
      catch e =>
        word := m!"arms, tried first: {e.toMessageData}"
        sv.restore
    unless done do
      try
        evalTactic (← `(tactic| go_simp))
        unless (← isK) do
          underBudget (evalTactic arms)
          unless (← isK) do throwError "what is left is not K"
        close
      catch e => throwError "go_inv: operation {i}: {e.toMessageData}\n{word}\nTHE GOAL:\n{← getMainGoal}"
    unless (← getGoals).isEmpty do throwError "go_inv: operation {i}: goals are left: {← getGoals}"
    setGoals [rest]
  evalTactic (← `(tactic| exact OpsOK.nil))
  setGoals [gend]
  let (u, W, hB, hf) := (id "u", id "W", id "hB", id "hf")
  evalTactic (← `(tactic| intro $u $W $hB $hf))
  let mut lems : Array (TSyntax `Lean.Parser.Tactic.simpLemma) := #[]
  for i in [0:n] do
    unless prs.any (·.1 == i) do
      let h := id s!"h{i}"
      evalTactic (← `(tactic| have $h := $hf $(quote i) (by decide) (by decide)))
      if rows.contains i then
        let b ← Term.exprToSyntax bs[i]!
        evalTactic (← `(tactic| change OB $W _ ($u $(quote i)) $b at $h:ident))
      else
        let b ← Term.exprToSyntax vals[i]!
        evalTactic (← `(tactic| change ($u $(quote i)) = $b at $h:ident))
        lems := lems.push (← `(Lean.Parser.Tactic.simpLemma| $h:ident))
  evalTactic (← `(tactic| clear $hf))
  evalTactic (← `(tactic| try simp only [$lems,*]))
  for i in [0:n] do
    unless prs.any (·.1 == i) || rows.contains i do evalTactic (← `(tactic| clear $(id s!"h{i}")))
end Go.Proofs.Ytbjpbnflioiccaa
