/-
  For walking: tests that are decided, told to simp; what is forgotten of slots and store. No condition.
-/
import Derived.Test.YtboejpobmpfifaaGreatDoorEngS
namespace Go.Proofs.YtboejpobmpfifaaGreatDoor.Eng
open Go

theorem evC_condT (G : Gp) (x : X) (a b : ACode) (env : Env) (s : St) (h : x.ev env = .bool true) : evC G (.cond x a b) env s = evC G a env s := by
  rw [evC_cond G x a b env s true h, if_pos rfl]
theorem evC_condF (G : Gp) (x : X) (a b : ACode) (env : Env) (s : St) (h : x.ev env = .bool false) : evC G (.cond x a b) env s = evC G b env s := by
  rw [evC_cond G x a b env s false h, if_neg (by decide)]

theorem Out_shed {G : Gp} {c : ACode} {s : St} {Q : AExit → Env → St → Prop} (P : Env → Prop) {env : Env} (h : P env) (k : ∀ env', P env' → Out (evC G c env' s) Q) : Out (evC G c env s) Q := k env h
theorem Out_shed2 {G : Gp} {c : ACode} {Q : AExit → Env → St → Prop} (P : Env → St → Prop) {env : Env} {s : St} (h : P env s) (k : ∀ env' s', P env' s' → Out (evC G c env' s') Q) : Out (evC G c env s) Q := k env s h

/-- A call of which it is enough that it ends so. -/
theorem call_ex {G : Gp} {f : FuncId} {F : AFunc} {args : List V} {s : St} {T : V → St → Prop} (hp : G.prim f = none) (ht : G.tab f = some F)
    (h : Out (evC G F.body (initEnv args) s) (fun e env s' => ∃ q, callK F s (some (e, env, s')) = some q ∧ T q.1 q.2)) : ∃ q, call G f args s = some q ∧ T q.1 q.2 := by
  obtain ⟨e, env, s', h, q, hq, hT⟩ := h
  exact ⟨q, call_out hp ht ⟨e, env, s', h, hq⟩, hT⟩

theorem fin_tk {s s' : St} {v : V} (h1 : s'.obs.take s.obs.length = s.obs) (h2 : s'.bufs.take s.bufs.length = s.bufs) (hv : v.plain.und s.obs.length 0 = true) : fin false s s' v = (v.plain, s) := by
  unfold fin
  simp [h1, h2, hv]
theorem fin_s (s : St) (X : List AObj) (ex : List (Nat × Nat × TypeId)) (v : V) (hv : v.plain.und s.obs.length 0 = true) : fin false s ⟨s.obs ++ X, s.bufs ++ ex⟩ v = (v.plain, s) := by
  unfold fin
  simp [hv]
theorem fin_s0 (s : St) (X : List AObj) (v : V) (hv : v.plain.und s.obs.length 0 = true) : fin false s ⟨s.obs ++ X, s.bufs⟩ v = (v.plain, s) := by
  unfold fin
  simp [hv]
theorem fin_id (s : St) {v : V} (hv : v.plain.und s.obs.length 0 = true) : fin false s s v = (v.plain, s) := by
  have := fin_s0 s [] v hv
  simpa using this

end Go.Proofs.YtboejpobmpfifaaGreatDoor.Eng
