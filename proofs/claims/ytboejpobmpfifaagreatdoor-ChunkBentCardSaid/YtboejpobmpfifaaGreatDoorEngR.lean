/-
  Equations of the evaluator without binders, for simp. No condition.
-/
import Derived.Test.YtboejpobmpfifaaGreatDoorEng1
namespace Go.Proofs.YtboejpobmpfifaaGreatDoor.Eng
open Go

theorem upd_apply (env : Env) (d t : Nat) (v : V) : upd env d v t = if t = d then v else env t := rfl

def scK (b : X) : Option (Env × St) → Option (V × St)
  | some (env, s) => some (b.ev env, s)
  | none => none

noncomputable def quietK (qu : Bool) (s : St) (args : List V) : Option (V × St) → Option (V × St)
  | some r => quiet qu s args r
  | none => none

theorem quietK_false (s : St) (args : List V) (r : Option (V × St)) : quietK false s args r = r := by
  cases r <;> simp [quietK, quiet]
theorem quietK_same (s : St) (args : List V) (v : V) : quietK true s args (some (v, s)) = if undL s.obs.length s.bufs.length args = true then some (v, s) else none := by
  simp [quietK, quiet]

/-- A framed call's end. -/
noncomputable def frK (s : St) (args : List V) : Option (V × St) → Option (V × St)
  | some r => frOut s args r
  | none => none

theorem frK_some (s : St) (args : List V) (v : V) (s1 : St) (h : FrOk (topL args) s args (v, s1)) : frK s args (some (v, s1)) = some (v, ⟨s1.obs ++ s.obs.drop (topL args), s.bufs⟩) := by
  simp only [frK, frOut]
  rw [if_pos h]

/-- One operation, run. -/
noncomputable def stepR (G : Gp) (op : AOp) (env : Env) (s : St) : Option (V × St) :=
  match op with
  | .call own qu f args =>
    match f.ev env with
    | .fn (.func f) first cap =>
      if (own && qu) = true then frK s (first ++ args.map (fun x => (x.ev env).plain) ++ cap) (call G f (first ++ args.map (fun x => (x.ev env).plain) ++ cap) (frIn s (first ++ args.map (fun x => (x.ev env).plain) ++ cap)))
      else quietK qu s (first ++ args.map (fun x => if own then x.ev env else (x.ev env).plain) ++ cap) (call G f (first ++ args.map (fun x => if own then x.ev env else (x.ev env).plain) ++ cap) s)
    | _ => none
  | .sc t and a rows b =>
    match a.ev env with
    | .bool c => if c = and then scK b (evR G rows (upd env t (.bool c)) s) else some (.bool (!and), s)
    | _ => none
  | op => evOp op env s

noncomputable def runR (G : Gp) (d : Option Nat) (rs : List ARow) (env : Env) : Option (V × St) → Option (Env × St)
  | none => none
  | some (v, s) => evR G rs (put env d v) s

theorem evR_nil (G : Gp) (env : Env) (s : St) : evR G [] env s = some (env, s) := by rw [evR_eq]; rfl

theorem evR_cons (G : Gp) (d : Option Nat) (op : AOp) (rs : List ARow) (env : Env) (s : St) :
    evR G (.mk d op :: rs) env s = runR G d rs (kill env (dstsO op)) (stepR G op env s) := by
  have e : ∀ b (x : Option (Env × St)), (x >>= fun q => some (b.ev q.1, q.2)) = scK b x := by
    intro b x; cases x <;> rfl
  have e' : ∀ qu s args (x : Option (V × St)), (x >>= fun r => quiet qu s args r) = quietK qu s args x := by
    intro qu s args x; cases x <;> rfl
  have e'' : ∀ s args (x : Option (V × St)), (x >>= fun r => frOut s args r) = frK s args x := by
    intro s args x; cases x <;> rfl
  rw [evR_eq]
  simp only [stepRows, stepO, evL, ARow.op, ARow.dst, e, e', e'']
  show (stepR G op env s >>= _) = _
  cases stepR G op env s <;> rfl

theorem runR_some (G : Gp) (d : Option Nat) (rs : List ARow) (env : Env) (v : V) (s : St) :
    runR G d rs env (some (v, s)) = evR G rs (put env d v) s := rfl
theorem runR_none (G : Gp) (d : Option Nat) (rs : List ARow) (env : Env) : runR G d rs env none = none := rfl
theorem runR_ite (G : Gp) (d : Option Nat) (rs : List ARow) (env : Env) (p : Prop) [Decidable p] (x y : Option (V × St)) :
    runR G d rs env (if p then x else y) = if p then runR G d rs env x else runR G d rs env y := by split <;> rfl

/-- Behind the first of two. -/
noncomputable def thenC (G : Gp) (c : ACode) : Option (AExit × Env × St) → Option (AExit × Env × St)
  | some (.norm, env, s) => evC G c env s
  | r => r

noncomputable def regK : Option (Env × St) → Option (AExit × Env × St)
  | some (env, s) => some (.norm, env, s)
  | none => none

def blkK (id : Nat) : Option (AExit × Env × St) → Option (AExit × Env × St)
  | some (.exit i, env, s) => if i = id then some (.norm, env, s) else some (.exit i, env, s)
  | r => r

noncomputable def loopK (G : Gp) (gc : Bool) (c : ACode) (s0 : St) : Option (AExit × Env × St) → Option (AExit × Env × St)
  | some (.norm, env, s) => evC G (.loop gc c) (finLoop gc s0 s env).1 (finLoop gc s0 s env).2
  | r => r

theorem evC_skip (G : Gp) (env : Env) (s : St) : evC G .skip env s = some (.norm, env, s) := by rw [evC_eq]; rfl
theorem evC_exit (G : Gp) (i : Nat) (env : Env) (s : St) : evC G (.exit i) env s = some (.exit i, env, s) := by rw [evC_eq]; rfl
theorem evC_ret (G : Gp) (env : Env) (s : St) : evC G .ret env s = some (.ret, env, s) := by rw [evC_eq]; rfl
theorem evC_scope (G : Gp) (c : ACode) (env : Env) (s : St) : evC G (.scope c) env s = evC G c env s := by rw [evC_eq]; rfl
theorem evC_reg (G : Gp) (rows : List ARow) (env : Env) (s : St) : evC G (.reg rows) env s = regK (evR G rows env s) := by
  rw [evC_eq]; simp only [stepC, evL]; cases evR G rows env s <;> rfl
def regKA (aps : List (Nat × Nat)) : Option (Env × St) → Option (AExit × Env × St)
  | some (env, s) => if aparts aps env = true then some (.norm, tells aps env s) else none
  | none => none
theorem evC_regDA (G : Gp) (aps : List (Nat × Nat)) (rows : List ARow) (env : Env) (s : St) : evC G (.regD aps rows) env s = regKA aps (evR G rows env s) := by
  rw [evC_eq]; simp only [stepC, evL]; cases evR G rows env s <;> rfl
theorem evC_regD (G : Gp) (rows : List ARow) (env : Env) (s : St) : evC G (.regD [] rows) env s = regK (evR G rows env s) := by
  rw [evC_regDA]; cases evR G rows env s <;> simp [regKA, regK, aparts, tells]
theorem regKA_some (aps : List (Nat × Nat)) (env : Env) (s : St) : regKA aps (some (env, s)) = if aparts aps env = true then some (.norm, tells aps env s) else none := rfl
theorem evC_seq (G : Gp) (a b : ACode) (env : Env) (s : St) : evC G (.seq a b) env s = thenC G b (evC G a env s) := by
  rw [evC_eq]
  simp only [stepC, evL]
  rcases evC G a env s with _ | ⟨e, q⟩
  · rfl
  · cases e <;> rfl
theorem evC_blk (G : Gp) (id : Nat) (c : ACode) (env : Env) (s : St) : evC G (.blk id c) env s = blkK id (evC G c env s) := by
  rw [evC_eq]
  simp only [stepC, evL]
  rcases evC G c env s with _ | ⟨e, q⟩
  · rfl
  · cases e <;> rfl
theorem evC_cond (G : Gp) (x : X) (a b : ACode) (env : Env) (s : St) (t : Bool) (h : x.ev env = .bool t) :
    evC G (.cond x a b) env s = if t = true then evC G a env s else evC G b env s := by
  rw [evC_eq]; simp only [stepC, evL, h]
theorem evC_loop (G : Gp) (gc : Bool) (c : ACode) (env : Env) (s : St) :
    evC G (.loop gc c) env s = loopK G gc c s (evC G c env s) := by
  rw [evC_eq]
  simp only [stepC, evL]
  rcases evC G c env s with _ | ⟨e, q⟩
  · rfl
  · cases e <;> rfl

theorem thenC_norm (G : Gp) (c : ACode) (env : Env) (s : St) : thenC G c (some (.norm, env, s)) = evC G c env s := rfl
theorem thenC_ret (G : Gp) (c : ACode) (env : Env) (s : St) : thenC G c (some (.ret, env, s)) = some (.ret, env, s) := rfl
theorem thenC_exit (G : Gp) (c : ACode) (i : Nat) (env : Env) (s : St) : thenC G c (some (.exit i, env, s)) = some (.exit i, env, s) := rfl
theorem thenC_ite (G : Gp) (c : ACode) (p : Prop) [Decidable p] (x y : Option (AExit × Env × St)) :
    thenC G c (if p then x else y) = if p then thenC G c x else thenC G c y := by split <;> rfl
theorem regK_some (env : Env) (s : St) : regK (some (env, s)) = some (.norm, env, s) := rfl
theorem regK_ite (p : Prop) [Decidable p] (x y : Option (Env × St)) : regK (if p then x else y) = if p then regK x else regK y := by split <;> rfl
theorem blkK_norm (id : Nat) (env : Env) (s : St) : blkK id (some (.norm, env, s)) = some (.norm, env, s) := rfl
theorem blkK_ret (id : Nat) (env : Env) (s : St) : blkK id (some (.ret, env, s)) = some (.ret, env, s) := rfl
theorem blkK_exit (id i : Nat) (env : Env) (s : St) : blkK id (some (.exit i, env, s)) = if i = id then some (.norm, env, s) else some (.exit i, env, s) := rfl
theorem blkK_ite (id : Nat) (p : Prop) [Decidable p] (x y : Option (AExit × Env × St)) :
    blkK id (if p then x else y) = if p then blkK id x else blkK id y := by split <;> rfl
theorem loopK_norm (G : Gp) (gc : Bool) (c : ACode) (s0 : St) (env : Env) (s : St) :
    loopK G gc c s0 (some (.norm, env, s)) = evC G (.loop gc c) (finLoop gc s0 s env).1 (finLoop gc s0 s env).2 := rfl
theorem loopK_ret (G : Gp) (gc : Bool) (c : ACode) (s0 : St) (env : Env) (s : St) : loopK G gc c s0 (some (.ret, env, s)) = some (.ret, env, s) := rfl
theorem loopK_exit (G : Gp) (gc : Bool) (c : ACode) (s0 : St) (i : Nat) (env : Env) (s : St) :
    loopK G gc c s0 (some (.exit i, env, s)) = some (.exit i, env, s) := rfl
theorem loopK_ite (G : Gp) (gc : Bool) (c : ACode) (s0 : St) (p : Prop) [Decidable p] (x y : Option (AExit × Env × St)) :
    loopK G gc c s0 (if p then x else y) = if p then loopK G gc c s0 x else loopK G gc c s0 y := by split <;> rfl

/-- A call's end. -/
noncomputable def callK (F : AFunc) (s0 : St) : Option (AExit × Env × St) → Option (V × St)
  | some (.exit _, _, _) => none
  | some (_, env, s) =>
    match resOf s env F.res with
    | some vs => some (fin F.keep s0 s (packR vs))
    | none => none
  | none => none

theorem call_tab (G : Gp) (f : FuncId) (F : AFunc) (args : List V) (s : St) (hp : G.prim f = none) (ht : G.tab f = some F) :
    call G f args s = callK F s (evC G F.body (initEnv args) s) := by
  rw [call_eq]
  simp only [stepF, evL, hp, ht]
  rcases evC G F.body (initEnv args) s with _ | ⟨e, env, s'⟩
  · rfl
  · cases e <;> simp [callK] <;> (cases resOf s' env F.res <;> rfl)

theorem callK_norm (F : AFunc) (s0 : St) (env : Env) (s : St) (vs : List V) (h : resOf s env F.res = some vs) :
    callK F s0 (some (.norm, env, s)) = some (fin F.keep s0 s (packR vs)) := by simp [callK, h]
theorem callK_ret (F : AFunc) (s0 : St) (env : Env) (s : St) (vs : List V) (h : resOf s env F.res = some vs) :
    callK F s0 (some (.ret, env, s)) = some (fin F.keep s0 s (packR vs)) := by simp [callK, h]
theorem callK_ite (F : AFunc) (s0 : St) (p : Prop) [Decidable p] (x y : Option (AExit × Env × St)) :
    callK F s0 (if p then x else y) = if p then callK F s0 x else callK F s0 y := by split <;> rfl

theorem ite_some {α : Type _} {p : Prop} [Decidable p] (x y : α) : (if p then some x else some y) = some (if p then x else y) := by split <;> rfl
theorem ite_pair {α β : Type _} {p : Prop} [Decidable p] (a b : α) (s : β) : (if p then (a, s) else (b, s)) = (if p then a else b, s) := by split <;> rfl
theorem ite_vbool {p : Prop} [Decidable p] (a b : Bool) : (if p then V.bool a else V.bool b) = V.bool (if p then a else b) := by split <;> rfl
theorem ite_congr' {α : Sort _} {b c : Prop} {x y u v : α} {s : Decidable b} [Decidable c]
    (h₁ : b = c) (h₂ : c → x = u) (h₃ : ¬ c → y = v) : ite b x y = ite c u v := ite_congr h₁ h₂ h₃

end Go.Proofs.YtboejpobmpfifaaGreatDoor.Eng
