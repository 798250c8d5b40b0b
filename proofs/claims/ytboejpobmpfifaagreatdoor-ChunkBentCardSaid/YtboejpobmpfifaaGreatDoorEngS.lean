/-
  What the evaluator comes to, said of what holds behind it. No condition.
-/
import Derived.Test.YtboejpobmpfifaaGreatDoorEngR
namespace Go.Proofs.YtboejpobmpfifaaGreatDoor.Eng
open Go

/-- It comes to an end of which Q holds. -/
def Out (o : Option (AExit × Env × St)) (Q : AExit → Env → St → Prop) : Prop := ∃ e env s, o = some (e, env, s) ∧ Q e env s

theorem Out_some (e : AExit) (env : Env) (s : St) (Q : AExit → Env → St → Prop) : Out (some (e, env, s)) Q ↔ Q e env s := by
  constructor
  · rintro ⟨_, _, _, h, hq⟩; cases h; exact hq
  · exact fun h => ⟨_, _, _, rfl, h⟩

theorem Out.mono {o : Option (AExit × Env × St)} {Q Q' : AExit → Env → St → Prop} (h : Out o Q) (k : ∀ e env s, Q e env s → Q' e env s) : Out o Q' := by
  obtain ⟨e, env, s, rfl, hq⟩ := h
  exact ⟨e, env, s, rfl, k _ _ _ hq⟩

def seqQ (G : Gp) (b : ACode) (Q : AExit → Env → St → Prop) : AExit → Env → St → Prop
  | .norm, env, s => Out (evC G b env s) Q
  | e, env, s => Q e env s

theorem seqQ_norm (G : Gp) (b : ACode) (Q : AExit → Env → St → Prop) (env : Env) (s : St) : seqQ G b Q .norm env s = Out (evC G b env s) Q := rfl
theorem seqQ_ret (G : Gp) (b : ACode) (Q : AExit → Env → St → Prop) (env : Env) (s : St) : seqQ G b Q .ret env s = Q .ret env s := rfl
theorem seqQ_exit (G : Gp) (b : ACode) (Q : AExit → Env → St → Prop) (i : Nat) (env : Env) (s : St) : seqQ G b Q (.exit i) env s = Q (.exit i) env s := rfl

theorem Out_seq (G : Gp) (a b : ACode) (env : Env) (s : St) (Q : AExit → Env → St → Prop) : Out (evC G (.seq a b) env s) Q ↔ Out (evC G a env s) (seqQ G b Q) := by
  rw [evC_seq]
  constructor
  · rintro ⟨e, env', s', h, hq⟩
    rcases hA : evC G a env s with _ | ⟨e1, env1, s1⟩
    · rw [hA] at h; cases h
    · rw [hA] at h
      refine ⟨e1, env1, s1, rfl, ?_⟩
      cases e1 with
      | norm => exact ⟨e, env', s', h, hq⟩
      | ret => cases h; exact hq
      | exit i => cases h; exact hq
  · rintro ⟨e1, env1, s1, h, hq⟩
    rw [h]
    cases e1 with
    | norm => exact hq
    | ret => exact ⟨_, _, _, rfl, hq⟩
    | exit i => exact ⟨_, _, _, rfl, hq⟩

def blkQ (id : Nat) (Q : AExit → Env → St → Prop) : AExit → Env → St → Prop
  | .exit i, env, s => if i = id then Q .norm env s else Q (.exit i) env s
  | e, env, s => Q e env s
theorem blkQ_norm (id : Nat) (Q : AExit → Env → St → Prop) (env : Env) (s : St) : blkQ id Q .norm env s = Q .norm env s := rfl
theorem blkQ_ret (id : Nat) (Q : AExit → Env → St → Prop) (env : Env) (s : St) : blkQ id Q .ret env s = Q .ret env s := rfl
theorem blkQ_exit (id i : Nat) (Q : AExit → Env → St → Prop) (env : Env) (s : St) : blkQ id Q (.exit i) env s = if i = id then Q .norm env s else Q (.exit i) env s := rfl

theorem Out_blk (G : Gp) (id : Nat) (c : ACode) (env : Env) (s : St) (Q : AExit → Env → St → Prop) : Out (evC G (.blk id c) env s) Q ↔ Out (evC G c env s) (blkQ id Q) := by
  rw [evC_blk]
  constructor
  · rintro ⟨e, env', s', h, hq⟩
    rcases hA : evC G c env s with _ | ⟨e1, env1, s1⟩
    · rw [hA] at h; cases h
    · rw [hA] at h
      refine ⟨e1, env1, s1, rfl, ?_⟩
      cases e1 with
      | norm => cases h; exact hq
      | ret => cases h; exact hq
      | exit i =>
        simp only [blkK, blkQ] at h ⊢
        split at h <;> rename_i hi <;> cases h
        · rw [if_pos hi]; exact hq
        · rw [if_neg hi]; exact hq
  · rintro ⟨e1, env1, s1, h, hq⟩
    rw [h]
    cases e1 with
    | norm => exact ⟨_, _, _, rfl, hq⟩
    | ret => exact ⟨_, _, _, rfl, hq⟩
    | exit i =>
      simp only [blkK, blkQ] at hq ⊢
      split at hq <;> rename_i hi
      · rw [if_pos hi]; exact ⟨_, _, _, rfl, hq⟩
      · rw [if_neg hi]; exact ⟨_, _, _, rfl, hq⟩

theorem Out_cond (G : Gp) (x : X) (a b : ACode) (env : Env) (s : St) (Q : AExit → Env → St → Prop) {t : Bool} (hx : x.ev env = .bool t)
    (h1 : t = true → Out (evC G a env s) Q) (h2 : t = false → Out (evC G b env s) Q) : Out (evC G (.cond x a b) env s) Q := by
  rw [evC_cond G x a b env s t hx]
  cases t with
  | true => exact h1 rfl
  | false => exact h2 rfl

def loopQ (G : Gp) (gc : Bool) (c : ACode) (s0 : St) (Q : AExit → Env → St → Prop) : AExit → Env → St → Prop
  | .norm, env, s => Out (evC G (.loop gc c) (finLoop gc s0 s env).1 (finLoop gc s0 s env).2) Q
  | e, env, s => Q e env s
theorem loopQ_norm (G : Gp) (gc : Bool) (c : ACode) (s0 : St) (Q : AExit → Env → St → Prop) (env : Env) (s : St) :
    loopQ G gc c s0 Q .norm env s = Out (evC G (.loop gc c) (finLoop gc s0 s env).1 (finLoop gc s0 s env).2) Q := rfl
theorem loopQ_ret (G : Gp) (gc : Bool) (c : ACode) (s0 : St) (Q : AExit → Env → St → Prop) (env : Env) (s : St) : loopQ G gc c s0 Q .ret env s = Q .ret env s := rfl
theorem loopQ_exit (G : Gp) (gc : Bool) (c : ACode) (s0 : St) (Q : AExit → Env → St → Prop) (i : Nat) (env : Env) (s : St) : loopQ G gc c s0 Q (.exit i) env s = Q (.exit i) env s := rfl

theorem Out_loop (G : Gp) (gc : Bool) (c c' : ACode) (hc : c = c') (env : Env) (s : St) (Q : AExit → Env → St → Prop) (h : Out (evC G c' env s) (loopQ G gc c s Q)) : Out (evC G (.loop gc c) env s) Q := by
  rw [evC_loop]
  subst hc
  obtain ⟨e1, env1, s1, h, hq⟩ := h
  rw [h]
  cases e1 with
  | norm => exact hq
  | ret => exact ⟨_, _, _, rfl, hq⟩
  | exit i => exact ⟨_, _, _, rfl, hq⟩

theorem call_out {G : Gp} {f : FuncId} {F : AFunc} {args : List V} {s : St} {r : V × St} (hp : G.prim f = none) (ht : G.tab f = some F)
    (h : Out (evC G F.body (initEnv args) s) (fun e env s' => callK F s (some (e, env, s')) = some r)) : call G f args s = some r := by
  rw [call_tab G f F args s hp ht]
  obtain ⟨e, env, s', h, hq⟩ := h
  rw [h]
  exact hq

theorem cells_agg (cs : List V) : V.cells (.agg cs) = cs := rfl
theorem cells_int (k : IntKind) (n : Int) : V.cells (.int k n) = [.int k n] := rfl
theorem cells_str (b : List UInt8) : V.cells (.str b) = [.str b] := rfl
theorem cells_bool (b : Bool) : V.cells (.bool b) = [.bool b] := rfl
theorem cells_sl (o : Own) (xs : List V) : V.cells (.sl o xs) = [.sl o xs] := rfl
theorem cells_ptr (i o : Nat) : V.cells (.ptr i o) = [.ptr i o] := rfl
theorem cells_pnil : V.cells .pnil = [.pnil] := rfl
theorem cells_fn (f : Fn) (a b : List V) : V.cells (.fn f a b) = [.fn f a b] := rfl
theorem cells_map (i : Nat) : V.cells (.map i) = [.map i] := rfl

theorem kill_none (env : Env) : kill env [] = env := by funext t; simp [kill]

theorem finLoop_false (s0 s : St) (env : Env) : finLoop false s0 s env = (env, s) := by simp [finLoop]

theorem wrap_in {n : Int} (h0 : -9223372036854775808 ≤ n) (h1 : n ≤ 9223372036854775807) : IntKind.i64.wrap n = n := by
  have e : (2 : Int) ^ IntKind.i64.bits = 18446744073709551616 := by decide
  have e' : (2 : Int) ^ (IntKind.i64.bits - 1) = 9223372036854775808 := by decide
  have e'' : IntKind.i64.signed = true := by decide
  unfold IntKind.wrap
  simp only [e, e', e'', Bool.true_and, decide_eq_true_eq, ge_iff_le]
  split <;> omega

end Go.Proofs.YtboejpobmpfifaaGreatDoor.Eng
