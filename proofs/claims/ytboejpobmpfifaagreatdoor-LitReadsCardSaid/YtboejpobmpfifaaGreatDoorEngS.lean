/-
 What the evaluator comes to, said of what holds behind it. No condition.
-/
import Derived.Test.YtboejpobmpfifaaGreatDoorEngR
namespace Go.Proofs.YtboejpobmpfifaaGreatDoor.Eng
open Go
def Out (o : Option (Qg × Env × St)) (Q : Qg → Env → St → Prop) : Prop := ∃ e env s, o = some (e, env, s) ∧ Q e env s
theorem dL (e : Qg) (env : Env) (s : St) (Q : Qg → Env → St → Prop) : Out (some (e, env, s)) Q ↔ Q e env s := by
 constructor
 ·rintro ⟨_, _, _, h, hq⟩; cases h; exact hq
 ·exact fun h => ⟨_, _, _, rfl, h⟩
theorem Out.mono {o : Option (Qg × Env × St)} {Q Q' : Qg → Env → St → Prop} (h : Out o Q) (k : ∀ e env s, Q e env s → Q' e env s) : Out o Q' := by
 obtain ⟨e, env, s, rfl, hq⟩ := h
 exact ⟨e, env, s, rfl, k _ _ _ hq⟩
def BV (G : Gp) (b : Qq) (Q : Qg → Env → St → Prop) : Qg → Env → St → Prop
 | .norm, env, s => Out (evC G b env s) Q
 | e, env, s => Q e env s
theorem cC (G : Gp) (b : Qq) (Q : Qg → Env → St → Prop) (env : Env) (s : St) : BV G b Q .norm env s = Out (evC G b env s) Q := rfl
theorem dU (G : Gp) (b : Qq) (Q : Qg → Env → St → Prop) (env : Env) (s : St) : BV G b Q .ret env s = Q .ret env s := rfl
theorem cZ (G : Gp) (b : Qq) (Q : Qg → Env → St → Prop) (i : Nat) (env : Env) (s : St) : BV G b Q (.exit i) env s = Q (.exit i) env s := rfl
theorem eF (G : Gp) (a b : Qq) (env : Env) (s : St) (Q : Qg → Env → St → Prop) : Out (evC G (.seq a b) env s) Q ↔ Out (evC G a env s) (BV G b Q) := by
 rw [IS]
 constructor
 ·rintro ⟨e, env', s', h, hq⟩
  rcases hA : evC G a env s with _ | ⟨e1, env1, s1⟩
  ·rw [hA] at h; cases h
  ·rw [hA] at h
   refine ⟨e1, env1, s1, rfl, ?_⟩
   cases e1 with
   | norm => exact ⟨e, env', s', h, hq⟩
   | ret => cases h; exact hq
   | exit i => cases h; exact hq
 ·rintro ⟨e1, env1, s1, h, hq⟩
  rw [h]
  cases e1 with
  | norm => exact hq
  | ret => exact ⟨_, _, _, rfl, hq⟩
  | exit i => exact ⟨_, _, _, rfl, hq⟩
def ES (id : Nat) (Q : Qg → Env → St → Prop) : Qg → Env → St → Prop
 | .exit i, env, s => if i = id then Q .norm env s else Q (.exit i) env s
 | e, env, s => Q e env s
theorem cN (id : Nat) (Q : Qg → Env → St → Prop) (env : Env) (s : St) : ES id Q .norm env s = Q .norm env s := rfl
theorem dM (id : Nat) (Q : Qg → Env → St → Prop) (env : Env) (s : St) : ES id Q .ret env s = Q .ret env s := rfl
theorem cA (id i : Nat) (Q : Qg → Env → St → Prop) (env : Env) (s : St) : ES id Q (.exit i) env s = if i = id then Q .norm env s else Q (.exit i) env s := rfl
theorem eS (G : Gp) (id : Nat) (c : Qq) (env : Env) (s : St) (Q : Qg → Env → St → Prop) : Out (evC G (.blk id c) env s) Q ↔ Out (evC G c env s) (ES id Q) := by
 rw [IR]
 constructor
 ·rintro ⟨e, env', s', h, hq⟩
  rcases hA : evC G c env s with _ | ⟨e1, env1, s1⟩
  ·rw [hA] at h; cases h
  ·rw [hA] at h
   refine ⟨e1, env1, s1, rfl, ?_⟩
   cases e1 with
   | norm => cases h; exact hq
   | ret => cases h; exact hq
   | exit i =>
    simp only [Ko, ES] at h ⊢
    split at h <;> rename_i hi <;> cases h
    ·rw [if_pos hi]; exact hq
    ·rw [if_neg hi]; exact hq
 ·rintro ⟨e1, env1, s1, h, hq⟩
  rw [h]
  cases e1 with
  | norm => exact ⟨_, _, _, rfl, hq⟩
  | ret => exact ⟨_, _, _, rfl, hq⟩
  | exit i =>
   simp only [Ko, ES] at hq ⊢
   split at hq <;> rename_i hi
   ·rw [if_pos hi]; exact ⟨_, _, _, rfl, hq⟩
   ·rw [if_neg hi]; exact ⟨_, _, _, rfl, hq⟩
theorem aA (G : Gp) (x : X) (a b : Qq) (env : Env) (s : St) (Q : Qg → Env → St → Prop) {t : Bool} (hx : x.ev env = .bool t)
  (h1 : t = true → Out (evC G a env s) Q) (h2 : t = false → Out (evC G b env s) Q) : Out (evC G (.cond x a b) env s) Q := by
 rw [uX G x a b env s t hx]
 cases t with
 | true => exact h1 rfl
 | false => exact h2 rfl
def Ew (G : Gp) (gc : Bool) (c : Qq) (s0 : St) (Q : Qg → Env → St → Prop) : Qg → Env → St → Prop
 | .norm, env, s => Out (evC G (.loop gc c) (fC gc s0 s env).1 (fC gc s0 s env).2) Q
 | e, env, s => Q e env s
theorem bX (G : Gp) (gc : Bool) (c : Qq) (s0 : St) (Q : Qg → Env → St → Prop) (env : Env) (s : St) :
  Ew G gc c s0 Q .norm env s = Out (evC G (.loop gc c) (fC gc s0 s env).1 (fC gc s0 s env).2) Q := rfl
theorem cV (G : Gp) (gc : Bool) (c : Qq) (s0 : St) (Q : Qg → Env → St → Prop) (env : Env) (s : St) : Ew G gc c s0 Q .ret env s = Q .ret env s := rfl
theorem bW (G : Gp) (gc : Bool) (c : Qq) (s0 : St) (Q : Qg → Env → St → Prop) (i : Nat) (env : Env) (s : St) : Ew G gc c s0 Q (.exit i) env s = Q (.exit i) env s := rfl
theorem aH (G : Gp) (gc : Bool) (c c' : Qq) (hc : c = c') (env : Env) (s : St) (Q : Qg → Env → St → Prop) (h : Out (evC G c' env s) (Ew G gc c s Q)) : Out (evC G (.loop gc c) env s) Q := by
 rw [GP]
 subst hc
 obtain ⟨e1, env1, s1, h, hq⟩ := h
 rw [h]
 cases e1 with
 | norm => exact hq
 | ret => exact ⟨_, _, _, rfl, hq⟩
 | exit i => exact ⟨_, _, _, rfl, hq⟩
theorem aC {G : Gp} {f : FuncId} {F : Qz} {args : List V} {s : St} {r : V × St} (hp : G.prim f = none) (ht : G.tab f = some F)
  (h : Out (evC G F.body (cF args) s) (fun e env s' => gT F s (some (e, env, s')) = some r)) : call G f args s = some r := by
 rw [GH G f F args s hp ht]
 obtain ⟨e, env, s', h, hq⟩ := h
 rw [h]
 exact hq
theorem cO (cs : List V) : V.cells (.agg cs) = cs := rfl
theorem cP (k : IntKind) (n : Int) : V.cells (.int k n) = [.int k n] := rfl
theorem cS (b : List UInt8) : V.cells (.str b) = [.str b] := rfl
theorem bU (b : Bool) : V.cells (.bool b) = [.bool b] := rfl
theorem dO (o : Own) (xs : List V) : V.cells (.sl o xs) = [.sl o xs] := rfl
theorem cR (i o : Nat) : V.cells (.ptr i o) = [.ptr i o] := rfl
theorem bV : V.cells .pnil = [.pnil] := rfl
theorem dN (f : Fn) (a b : List V) : V.cells (.fn f a b) = [.fn f a b] := rfl
theorem cQ (i : Nat) : V.cells (.map i) = [.map i] := rfl
theorem cU (env : Env) : kill env [] = env := by funext t; simp [kill]
theorem bH (s0 s : St) (env : Env) : fC false s0 s env = (env, s) := by simp [fC]
theorem aD {n : Int} (h0 : -9223372036854775808 ≤ n) (h1 : n ≤ 9223372036854775807) : IntKind.i64.wrap n = n := by
 have e : (2 : Int) ^ IntKind.i64.bits = 18446744073709551616 := by decide
 have e' : (2 : Int) ^ (IntKind.i64.bits - 1) = 9223372036854775808 := by decide
 have e'' : IntKind.i64.signed = true := by decide
 unfold IntKind.wrap
 simp only [e, e', e'', Bool.true_and, decide_eq_true_eq, ge_iff_le]
 split <;> omega
