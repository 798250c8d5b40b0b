/-
 Equations of the evaluator without binders, for simp. No condition.
-/
import Derived.Test.YtboejpobmpfifaaGreatDoorEng1
namespace Go.Proofs.YtboejpobmpfifaaGreatDoor.Eng
open Go
theorem dB (env : Env) (d t : Nat) (v : V) : upd env d v t = if t = d then v else env t := rfl
def scK (b : X) : Option (Env × St) → Option (V × St)
 | some (env, s) => some (b.ev env, s)
 | none => none
noncomputable def sT (qu : Bool) (s : St) (args : List V) : Option (V × St) → Option (V × St)
 | some r => quiet qu s args r
 | none => none
theorem bK (s : St) (args : List V) (r : Option (V × St)) : sT false s args r = r := by
 cases r <;> simp [sT, quiet]
theorem aL (s : St) (args : List V) (v : V) : sT true s args (some (v, s)) = if bY s.obs.length s.bufs.length args = true then some (v, s) else none := by
 simp [sT, quiet]
noncomputable def frK (s : St) (args : List V) : Option (V × St) → Option (V × St)
 | some r => vH s args r
 | none => none
theorem Ha (s : St) (args : List V) (v : V) (s1 : St) (h : FrOk (eD args) s args (v, s1)) : frK s args (some (v, s1)) = some (v, ⟨s1.obs ++ s.obs.drop (eD args), s.bufs⟩) := by
 simp only [frK, vH]
 rw [if_pos h]
noncomputable def hZ (G : Gp) (op : AOp) (env : Env) (s : St) : Option (V × St) :=
 match op with
 | .call own qu f args =>
  match f.ev env with
  | .fn (.func f) first cap =>
   if (own && qu) = true then frK s (first ++ args.map (fun x => (x.ev env).plain) ++ cap) (call G f (first ++ args.map (fun x => (x.ev env).plain) ++ cap) (vF s (first ++ args.map (fun x => (x.ev env).plain) ++ cap)))
   else sT qu s (first ++ args.map (fun x => if own then x.ev env else (x.ev env).plain) ++ cap) (call G f (first ++ args.map (fun x => if own then x.ev env else (x.ev env).plain) ++ cap) s)
  | _ => none
 | .sc t and a rows b =>
  match a.ev env with
  | .bool c => if c = and then scK b (evR G rows (upd env t (.bool c)) s) else some (.bool (!and), s)
  | _ => none
 | op => aZ op env s
noncomputable def Lk (G : Gp) (d : Option Nat) (rs : List Qx) (env : Env) : Option (V × St) → Option (Env × St)
 | none => none
 | some (v, s) => evR G rs (put env d v) s
theorem eV (G : Gp) (env : Env) (s : St) : evR G [] env s = some (env, s) := by rw [GT]; rfl
theorem dR (G : Gp) (d : Option Nat) (op : AOp) (rs : List Qx) (env : Env) (s : St) :
  evR G (.mk d op :: rs) env s = Lk G d rs (kill env (aF op)) (hZ G op env s) := by
 have e : ∀ b (x : Option (Env × St)), (x >>= fun q => some (b.ev q.1, q.2)) = scK b x := by
  intro b x; cases x <;> rfl
 have e' : ∀ qu s args (x : Option (V × St)), (x >>= fun r => quiet qu s args r) = sT qu s args x := by
  intro qu s args x; cases x <;> rfl
 have e'' : ∀ s args (x : Option (V × St)), (x >>= fun r => vH s args r) = frK s args x := by
  intro s args x; cases x <;> rfl
 rw [GT]
 simp only [iA, lY, evL, Qx.op, Qx.dst, e, e', e'']
 show (hZ G op env s >>= _) = _
 cases hZ G op env s <;> rfl
theorem cY (G : Gp) (d : Option Nat) (rs : List Qx) (env : Env) (v : V) (s : St) :
  Lk G d rs env (some (v, s)) = evR G rs (put env d v) s := rfl
noncomputable def Ln (G : Gp) (c : Qq) : Option (Qg × Env × St) → Option (Qg × Env × St)
 | some (.norm, env, s) => evC G c env s
 | r => r
noncomputable def Jw : Option (Env × St) → Option (Qg × Env × St)
 | some (env, s) => some (.norm, env, s)
 | none => none
def Ko (id : Nat) : Option (Qg × Env × St) → Option (Qg × Env × St)
 | some (.exit i, env, s) => if i = id then some (.norm, env, s) else some (.exit i, env, s)
 | r => r
noncomputable def Lf (G : Gp) (gc : Bool) (c : Qq) (s0 : St) : Option (Qg × Env × St) → Option (Qg × Env × St)
 | some (.norm, env, s) => evC G (.loop gc c) (fC gc s0 s env).1 (fC gc s0 s env).2
 | r => r
theorem dQ (G : Gp) (env : Env) (s : St) : evC G .skip env s = some (.norm, env, s) := by rw [nJ]; rfl
theorem dP (G : Gp) (i : Nat) (env : Env) (s : St) : evC G (.exit i) env s = some (.exit i, env, s) := by rw [nJ]; rfl
theorem eU (G : Gp) (env : Env) (s : St) : evC G .ret env s = some (.ret, env, s) := by rw [nJ]; rfl
theorem eT (G : Gp) (rows : List Qx) (env : Env) (s : St) : evC G (.reg rows) env s = Jw (evR G rows env s) := by
 rw [nJ]; simp only [gK, evL]; cases evR G rows env s <;> rfl
def HD (aps : List (Nat × Nat)) : Option (Env × St) → Option (Qg × Env × St)
 | some (env, s) => if fP aps env = true then some (.norm, kL aps env s) else none
 | none => none
theorem aR (G : Gp) (aps : List (Nat × Nat)) (rows : List Qx) (env : Env) (s : St) : evC G (.regD aps rows) env s = HD aps (evR G rows env s) := by
 rw [nJ]; simp only [gK, evL]; cases evR G rows env s <;> rfl
theorem eN (G : Gp) (rows : List Qx) (env : Env) (s : St) : evC G (.regD [] rows) env s = Jw (evR G rows env s) := by
 rw [aR]; cases evR G rows env s <;> simp [HD, Jw, fP, kL]
theorem aN (aps : List (Nat × Nat)) (env : Env) (s : St) : HD aps (some (env, s)) = if fP aps env = true then some (.norm, kL aps env s) else none := rfl
theorem IS (G : Gp) (a b : Qq) (env : Env) (s : St) : evC G (.seq a b) env s = Ln G b (evC G a env s) := by
 rw [nJ]
 simp only [gK, evL]
 rcases evC G a env s with _ | ⟨e, q⟩
 ·rfl
 ·cases e <;> rfl
theorem IR (G : Gp) (id : Nat) (c : Qq) (env : Env) (s : St) : evC G (.blk id c) env s = Ko id (evC G c env s) := by
 rw [nJ]
 simp only [gK, evL]
 rcases evC G c env s with _ | ⟨e, q⟩
 ·rfl
 ·cases e <;> rfl
theorem uX (G : Gp) (x : X) (a b : Qq) (env : Env) (s : St) (t : Bool) (h : x.ev env = .bool t) :
  evC G (.cond x a b) env s = if t = true then evC G a env s else evC G b env s := by
 rw [nJ]; simp only [gK, evL, h]
theorem GP (G : Gp) (gc : Bool) (c : Qq) (env : Env) (s : St) :
  evC G (.loop gc c) env s = Lf G gc c s (evC G c env s) := by
 rw [nJ]
 simp only [gK, evL]
 rcases evC G c env s with _ | ⟨e, q⟩
 ·rfl
 ·cases e <;> rfl
theorem cW (env : Env) (s : St) : Jw (some (env, s)) = some (.norm, env, s) := rfl
noncomputable def gT (F : Qz) (s0 : St) : Option (Qg × Env × St) → Option (V × St)
 | some (.exit _, _, _) => none
 | some (_, env, s) =>
  match fE s env F.res with
  | some vs => some (fin F.keep s0 s (gB vs))
  | none => none
 | none => none
theorem GH (G : Gp) (f : FuncId) (F : Qz) (args : List V) (s : St) (hp : G.prim f = none) (ht : G.tab f = some F) :
  call G f args s = gT F s (evC G F.body (cF args) s) := by
 rw [tV]
 simp only [oC, evL, hp, ht]
 rcases evC G F.body (cF args) s with _ | ⟨e, env, s'⟩
 ·rfl
 ·cases e <;> simp [gT] <;> (cases fE s' env F.res <;> rfl)
theorem dT {α : Type _} {p : Prop} [Decidable p] (x y : α) : (if p then some x else some y) = some (if p then x else y) := by split <;> rfl
theorem dS {α β : Type _} {p : Prop} [Decidable p] (a b : α) (s : β) : (if p then (a, s) else (b, s)) = (if p then a else b, s) := by split <;> rfl
theorem cT {p : Prop} [Decidable p] (a b : Bool) : (if p then V.bool a else V.bool b) = V.bool (if p then a else b) := by split <;> rfl
