/-
 For walking: tests that are decided, told to simp; what is forgotten of slots and store. No condition.
-/
import Derived.Test.YtboejpobmpfifaaGreatDoorEngS
namespace Go.Proofs.YtboejpobmpfifaaGreatDoor.Eng
open Go
theorem gS (G : Gp) (x : X) (a b : Qq) (env : Env) (s : St) (h : x.ev env = .bool true) : evC G (.cond x a b) env s = evC G a env s := by
 rw [uX G x a b env s true h, if_pos rfl]
theorem gR (G : Gp) (x : X) (a b : Qq) (env : Env) (s : St) (h : x.ev env = .bool false) : evC G (.cond x a b) env s = evC G b env s := by
 rw [uX G x a b env s false h, if_neg (by decide)]
theorem iN {G : Gp} {c : Qq} {s : St} {Q : Qg → Env → St → Prop} (P : Env → Prop) {env : Env} (h : P env) (k : ∀ env', P env' → Out (evC G c env' s) Q) : Out (evC G c env s) Q := k env h
theorem kM {G : Gp} {f : FuncId} {F : Qz} {args : List V} {s : St} {T : V → St → Prop} (hp : G.prim f = none) (ht : G.tab f = some F)
  (h : Out (evC G F.body (cF args) s) (fun e env s' => ∃ q, gT F s (some (e, env, s')) = some q ∧ T q.1 q.2)) : ∃ q, call G f args s = some q ∧ T q.1 q.2 := by
 obtain ⟨e, env, s', h, q, hq, hT⟩ := h
 exact ⟨q, aC hp ht ⟨e, env, s', h, hq⟩, hT⟩
theorem CK {s s' : St} {v : V} (h1 : s'.obs.take s.obs.length = s.obs) (h2 : s'.bufs.take s.bufs.length = s.bufs) (hv : v.plain.und s.obs.length 0 = true) : fin false s s' v = (v.plain, s) := by
 unfold fin
 simp [h1, h2, hv]
theorem vB (s : St) (X : List Qw) (ex : List (Nat × Nat × TypeId)) (v : V) (hv : v.plain.und s.obs.length 0 = true) : fin false s ⟨s.obs ++ X, s.bufs ++ ex⟩ v = (v.plain, s) := by
 unfold fin
 simp [hv]
theorem bZ (s : St) (X : List Qw) (v : V) (hv : v.plain.und s.obs.length 0 = true) : fin false s ⟨s.obs ++ X, s.bufs⟩ v = (v.plain, s) := by
 unfold fin
 simp [hv]
theorem aS (s : St) {v : V} (hv : v.plain.und s.obs.length 0 = true) : fin false s s v = (v.plain, s) := by
 have := bZ s [] v hv
 simpa using this
