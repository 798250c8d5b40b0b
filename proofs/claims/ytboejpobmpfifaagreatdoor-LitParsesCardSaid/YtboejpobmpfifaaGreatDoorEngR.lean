/-
 Equations of the evaluator without binders, for simp. No condition.
-/
import Derived.Test.YtboejpobmpfifaaGreatDoorEng1
namespace Go.Proofs.YtboejpobmpfifaaGreatDoor.Eng
open Go
theorem dF (env : Env) (d t : Nat) (v : V) : upd env d v t = if t = d then v else env t := rfl
def scK (b : X) : Option (Env × St) → Option (V × St)
 | some (env, s) => some (b.ev env, s)
 | none => none
noncomputable def sL (qu : Bool) (s : St) (args : List V) : Option (V × St) → Option (V × St)
 | some r => quiet qu s args r
 | none => none
theorem bN (s : St) (args : List V) (r : Option (V × St)) : sL false s args r = r := by
 cases r <;> simp [sL, quiet]
theorem bB (s : St) (args : List V) (v : V) : sL true s args (some (v, s)) = if cB s.obs.length s.bufs.length args = true then some (v, s) else none := by
 simp [sL, quiet]
noncomputable def frK (s : St) (args : List V) : Option (V × St) → Option (V × St)
 | some r => uX s args r
 | none => none
theorem GW (s : St) (args : List V) (v : V) (s1 : St) (h : FrOk (eR args) s args (v, s1)) : frK s args (some (v, s1)) = some (v, ⟨s1.obs ++ s.obs.drop (eR args), s.bufs⟩) := by
 simp only [frK, uX]
 rw [if_pos h]
noncomputable def iD (G : Gp) (op : AOp) (env : Env) (s : St) : Option (V × St) :=
 match op with
 | .call own qu f args =>
  match f.ev env with
  | .fn (.func f) first cap =>
   if (own && qu) = true then frK s (first ++ args.map (fun x => (x.ev env).plain) ++ cap) (call G f (first ++ args.map (fun x => (x.ev env).plain) ++ cap) (wU s (first ++ args.map (fun x => (x.ev env).plain) ++ cap)))
   else sL qu s (first ++ args.map (fun x => if own then x.ev env else (x.ev env).plain) ++ cap) (call G f (first ++ args.map (fun x => if own then x.ev env else (x.ev env).plain) ++ cap) s)
  | _ => none
 | .sc t and a rows b =>
  match a.ev env with
  | .bool c => if c = and then scK b (evR G rows (upd env t (.bool c)) s) else some (.bool (!and), s)
  | _ => none
 | op => aW op env s
noncomputable def KZ (G : Gp) (d : Option Nat) (rs : List ARow) (env : Env) : Option (V × St) → Option (Env × St)
 | none => none
 | some (v, s) => evR G rs (put env d v) s
theorem eZ (G : Gp) (env : Env) (s : St) : evR G [] env s = some (env, s) := by rw [GP]; rfl
theorem dV (G : Gp) (d : Option Nat) (op : AOp) (rs : List ARow) (env : Env) (s : St) :
  evR G (.mk d op :: rs) env s = KZ G d rs (kill env (aF op)) (iD G op env s) := by
 have e : ∀ b (x : Option (Env × St)), (x >>= fun q => some (b.ev q.1, q.2)) = scK b x := by
  intro b x; cases x <;> rfl
 have e' : ∀ qu s args (x : Option (V × St)), (x >>= fun r => quiet qu s args r) = sL qu s args x := by
  intro qu s args x; cases x <;> rfl
 have e'' : ∀ s args (x : Option (V × St)), (x >>= fun r => uX s args r) = frK s args x := by
  intro s args x; cases x <;> rfl
 rw [GP]
 simp only [gW, lO, evL, ARow.op, ARow.dst, e, e', e'']
 show (iD G op env s >>= _) = _
 cases iD G op env s <;> rfl
theorem dD (G : Gp) (d : Option Nat) (rs : List ARow) (env : Env) (v : V) (s : St) :
  KZ G d rs env (some (v, s)) = evR G rs (put env d v) s := rfl
noncomputable def Lb (G : Gp) (c : ACode) : Option (AExit × Env × St) → Option (AExit × Env × St)
 | some (.norm, env, s) => evC G c env s
 | r => r
noncomputable def Js : Option (Env × St) → Option (AExit × Env × St)
 | some (env, s) => some (.norm, env, s)
 | none => none
def Ki (id : Nat) : Option (AExit × Env × St) → Option (AExit × Env × St)
 | some (.exit i, env, s) => if i = id then some (.norm, env, s) else some (.exit i, env, s)
 | r => r
noncomputable def KV (G : Gp) (gc : Bool) (c : ACode) (s0 : St) : Option (AExit × Env × St) → Option (AExit × Env × St)
 | some (.norm, env, s) => evC G (.loop gc c) (fA gc s0 s env).1 (fA gc s0 s env).2
 | r => r
theorem dU (G : Gp) (env : Env) (s : St) : evC G .skip env s = some (.norm, env, s) := by rw [nC]; rfl
theorem dT (G : Gp) (i : Nat) (env : Env) (s : St) : evC G (.exit i) env s = some (.exit i, env, s) := by rw [nC]; rfl
theorem eY (G : Gp) (env : Env) (s : St) : evC G .ret env s = some (.ret, env, s) := by rw [nC]; rfl
theorem eW (G : Gp) (rows : List ARow) (env : Env) (s : St) : evC G (.reg rows) env s = Js (evR G rows env s) := by
 rw [nC]; simp only [gE, evL]; cases evR G rows env s <;> rfl
def HB (aps : List (Nat × Nat)) : Option (Env × St) → Option (AExit × Env × St)
 | some (env, s) => if fL aps env = true then some (.norm, kH aps env s) else none
 | none => none
theorem aV (G : Gp) (aps : List (Nat × Nat)) (rows : List ARow) (env : Env) (s : St) : evC G (.regD aps rows) env s = HB aps (evR G rows env s) := by
 rw [nC]; simp only [gE, evL]; cases evR G rows env s <;> rfl
theorem eX (G : Gp) (rows : List ARow) (env : Env) (s : St) : evC G (.regD [] rows) env s = Js (evR G rows env s) := by
 rw [aV]; cases evR G rows env s <;> simp [HB, Js, fL, kH]
theorem aQ (aps : List (Nat × Nat)) (env : Env) (s : St) : HB aps (some (env, s)) = if fL aps env = true then some (.norm, kH aps env s) else none := rfl
theorem IP (G : Gp) (a b : ACode) (env : Env) (s : St) : evC G (.seq a b) env s = Lb G b (evC G a env s) := by
 rw [nC]
 simp only [gE, evL]
 rcases evC G a env s with _ | ⟨e, q⟩
 ·rfl
 ·cases e <;> rfl
theorem IO (G : Gp) (id : Nat) (c : ACode) (env : Env) (s : St) : evC G (.blk id c) env s = Ki id (evC G c env s) := by
 rw [nC]
 simp only [gE, evL]
 rcases evC G c env s with _ | ⟨e, q⟩
 ·rfl
 ·cases e <;> rfl
theorem uR (G : Gp) (x : X) (a b : ACode) (env : Env) (s : St) (t : Bool) (h : x.ev env = .bool t) :
  evC G (.cond x a b) env s = if t = true then evC G a env s else evC G b env s := by
 rw [nC]; simp only [gE, evL, h]
theorem GL (G : Gp) (gc : Bool) (c : ACode) (env : Env) (s : St) :
  evC G (.loop gc c) env s = KV G gc c s (evC G c env s) := by
 rw [nC]
 simp only [gE, evL]
 rcases evC G c env s with _ | ⟨e, q⟩
 ·rfl
 ·cases e <;> rfl
theorem dC (env : Env) (s : St) : Js (some (env, s)) = some (.norm, env, s) := rfl
noncomputable def gS (F : AFunc) (s0 : St) : Option (AExit × Env × St) → Option (V × St)
 | some (.exit _, _, _) => none
 | some (_, env, s) =>
  match fJ s env F.res with
  | some vs => some (fin F.keep s0 s (gD vs))
  | none => none
 | none => none
theorem GD (G : Gp) (f : FuncId) (F : AFunc) (args : List V) (s : St) (hp : G.prim f = none) (ht : G.tab f = some F) :
  call G f args s = gS F s (evC G F.body (cK args) s) := by
 rw [tN]
 simp only [nY, evL, hp, ht]
 rcases evC G F.body (cK args) s with _ | ⟨e, env, s'⟩
 ·rfl
 ·cases e <;> simp [gS] <;> (cases fJ s' env F.res <;> rfl)
theorem dX {α : Type _} {p : Prop} [Decidable p] (x y : α) : (if p then some x else some y) = some (if p then x else y) := by split <;> rfl
theorem dW {α β : Type _} {p : Prop} [Decidable p] (a b : α) (s : β) : (if p then (a, s) else (b, s)) = (if p then a else b, s) := by split <;> rfl
theorem cZ {p : Prop} [Decidable p] (a b : Bool) : (if p then V.bool a else V.bool b) = V.bool (if p then a else b) := by split <;> rfl
end Go.Proofs.YtboejpobmpfifaaGreatDoor.Eng
