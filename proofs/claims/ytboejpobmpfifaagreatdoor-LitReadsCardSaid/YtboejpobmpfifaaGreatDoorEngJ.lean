/-
 What rows come to, one by one; rows passed by. No condition.
-/
import Derived.Test.YtboejpobmpfifaaGreatDoorEngI
set_option linter.unusedSimpArgs false
namespace Go.Proofs.YtboejpobmpfifaaGreatDoor.Eng
open Go Go.RowKit
section
variable {P : Program} {B : Nat} {w0 : World} {S : Sit}
def satV (g : Option (Nat × Bool)) (e : Env) : Prop :=
 match g with
 | none => True
 | some (t, want) => e t = .bool want
def unsV (g : Option (Nat × Bool)) (e : Env) : Prop :=
 match g with
 | none => False
 | some (t, want) => e t = .bool (!want) ∨ e t = .tup []
inductive Qh (P : Program) (B : Nat) (w0 : World) (f : Qy) (e : Env) (s : St) : V → St → Prop
 | run (v : V) (s' : St) : satV f.guard e → aZ f.op e s = some (v, s') → Qh P B w0 f e s v s'
 | fr (fx : X) (as : List X) (g : FuncId) (first cap : List V) (v : V) (s' : St) : satV f.guard e → f.op = .call true true fx as → fx.ev e = .fn (.func g) first cap →
   Wq P B w0 g (first ++ as.map (fun x => (x.ev e).plain) ++ cap) s v s' → Qh P B w0 f e s v s'
 | call (own qu : Bool) (fx : X) (as : List X) (g : FuncId) (first cap : List V) (v : V) (s' : St) : (own && qu) = false → satV f.guard e → f.op = .call own qu fx as → fx.ev e = .fn (.func g) first cap →
   Qu P B w0 g (first ++ as.map (fun x => if own = true then x.ev e else (x.ev e).plain) ++ cap) s (v, s') →
   (qu = true → s' = s ∧ bY s.obs.length s.bufs.length (first ++ as.map (fun x => if own = true then x.ev e else (x.ev e).plain) ++ cap) = true) → Qh P B w0 f e s v s'
 | skip : unsV f.guard e → Qh P B w0 f e s (.tup []) s
def Less (e e' : Env) : Prop := ∀ t, e t = e' t ∨ e t = .junk
inductive Trc (P : Program) (B : Nat) (w0 : World) : List Qy → Env → St → Env → St → Prop
 | nil (e : Env) (s : St) : Trc P B w0 [] e s e s
 | cons (f : Qy) (fs : List Qy) (e e' : Env) (s s1 s' : St) (v : V) : Qh P B w0 f e s v s1 → Trc P B w0 fs (put e f.dst v) s1 e' s' → Trc P B w0 (f :: fs) e s e' s'
 | weak (fs : List Qy) (e e1 e' : Env) (s s' : St) : Less e1 e → Trc P B w0 fs e1 s e' s' → Trc P B w0 fs e s e' s'
theorem Less.refl (e : Env) : Less e e := fun _ => .inl rfl
theorem Less.trans {e e' e'' : Env} (h : Less e e') (k : Less e' e'') : Less e e'' := fun t => by
 rcases h t with h | h
 ·rw [h]; exact k t
 ·exact .inr h
theorem Less.kill (e : Env) (ds : List Nat) : Less (kill e ds) e := fun t => by
 simp only [Eng.kill]
 split
 ·exact .inr rfl
 ·exact .inl rfl
theorem Less.put {e e' : Env} (h : Less e e') (d : Option Nat) (v : V) : Less (put e d v) (put e' d v) := fun t => by
 cases d with
 | none => exact h t
 | some d =>
  simp only [Eng.put, upd]
  split
  ·exact .inl rfl
  ·exact h t
theorem Trc.append {fs gs : List Qy} {e e1 e' : Env} {s s1 s' : St} (h : Trc P B w0 fs e s e1 s1) (k : Trc P B w0 gs e1 s1 e' s') : Trc P B w0 (fs ++ gs) e s e' s' := by
 induction h with
 | nil e s => exact k
 | cons f fs e e' s s1 s' v hr _ ih => exact .cons f _ e _ s s1 _ v hr (ih k)
 | weak fs e e1 e' s s' hl _ ih => exact .weak _ e e1 _ s _ hl (ih k)
theorem Trc.one {f : Qy} {e : Env} {s s1 : St} {v : V} (h : Qh P B w0 f e s v s1) : Trc P B w0 [f] e s (put e f.dst v) s1 := .cons f [] e _ s s1 s1 v h (.nil _ _)
def SkT (P : Program) (B : Nat) (w0 : World) (fs : List Qy) (g : Option (Nat × Bool)) (ds : List Nat) : Prop :=
 ∀ (e : Env) (s : St), unsV g e → (∀ q, g = some q → q.1 ∉ ds) → Trc P B w0 fs e s (kill e ds) s
theorem unsV.mono {g : Option (Nat × Bool)} {e e' : Env} (h : unsV g e) (k : ∀ q, g = some q → e' q.1 = e q.1) : unsV g e' := by
 cases g with
 | none => exact h
 | some q =>
  obtain ⟨t, w⟩ := q
  simp only [unsV] at h ⊢
  rw [k _ rfl]
  exact h
theorem satV.mono {g : Option (Nat × Bool)} {e e' : Env} (h : satV g e) (k : ∀ q, g = some q → e' q.1 = e q.1) : satV g e' := by
 cases g with
 | none => exact h
 | some q =>
  obtain ⟨t, w⟩ := q
  simp only [satV] at h ⊢
  rw [k _ rfl]
  exact h
theorem kX {e : Env} {ds : List Nat} {t : Nat} (h : t ∉ ds) : kill e ds t = e t := by
 simp only [Eng.kill]
 rw [if_neg (by simpa using h)]
theorem gC {e : Env} {d : Option Nat} {v : V} {t : Nat} (h : t ∉ d.toList) : put e d v t = e t := by
 cases d with
 | none => rfl
 | some d =>
  have : t ≠ d := fun q => h (by simp [q])
  simp [put, upd, this]
theorem xE {e : Env} {d : Option Nat} {v : V} {ds : List Nat} (h : ∀ t, t ∈ d.toList → t ∈ ds) : Less (kill e ds) (put e d v) := fun t => by
 simp only [Eng.kill]
 split
 ·exact .inr rfl
 ·rename_i hc
  have : t ∉ d.toList := fun q => hc (by simpa using h t q)
  exact .inl (gC this).symm
theorem aP {d : Option Nat} {op : AOp} {g : Option (Nat × Bool)} : SkT P B w0 [⟨d, g, op⟩] g d.toList := by
 intro e s hu _
 refine Trc.append (.one (.skip hu)) (.weak _ _ _ _ _ _ (xE (fun t ht => ht)) (.nil _ _))
theorem Fi (e : Env) (a b : List Nat) : kill (kill e a) b = kill e (a ++ b) := by
 funext t
 by_cases h1 : t ∈ a <;> by_cases h2 : t ∈ b <;> simp [kill, h1, h2]
mutual
theorem KP : ∀ (r : Qx) (g : Option (Nat × Bool)), okR r = true → SkT P B w0 (aJ g r) g (aG r)
 | .mk d (.sc t and x rows b), g, hok => by
  intro e s hu hg
  simp only [okR, okO, Bool.and_eq_true, Bool.not_eq_true'] at hok
  have ht : t ∉ bQ rows := by simpa using hok.1
  simp only [aG, aF, List.mem_append, List.mem_cons, not_or] at hg
  simp only [aJ]
  refine .cons _ _ _ _ _ s _ (.tup []) (.skip hu) ?_
  have hu1 : unsV (some (t, and)) (put e (some t) (.tup [])) := .inr (by simp [put, upd])
  refine (DU rows (some (t, and)) hok.2 _ s hu1 (by rintro q ⟨⟩; exact ht)).append ?_
  have hu2 : unsV g (kill (put e (some t) (.tup [])) (bQ rows)) := hu.mono (fun q hq => by
   rw [kX (hg q hq).2.2, gC (by simpa using (hg q hq).2.1)])
  refine Trc.append (.one (.skip hu2)) (.weak _ _ _ _ _ _ ?_ (.nil _ _))
  intro u
  simp only [Eng.kill]
  split
  ·exact .inr rfl
  ·rename_i hc
   have hc' : u ∉ d.toList ∧ u ≠ t ∧ u ∉ bQ rows := by simpa [aG, aF, not_or] using hc
   left
   rw [gC hc'.1]
   show e u = kill (put e (some t) (.tup [])) (bQ rows) u
   rw [kX hc'.2.2, gC (by simpa using hc'.2.1)]
 | .mk d (.mov x0), g, _ => by simpa only [aJ, aG, aF, List.append_nil] using aP (op := .mov x0)
 | .mk d (.nilb x0), g, _ => by simpa only [aJ, aG, aF, List.append_nil] using aP (op := .nilb x0)
 | .mk d (.pick x0 x1 x2), g, _ => by simpa only [aJ, aG, aF, List.append_nil] using aP (op := .pick x0 x1 x2)
 | .mk d (.new x0 x1), g, _ => by simpa only [aJ, aG, aF, List.append_nil] using aP (op := .new x0 x1)
 | .mk d (.box x0 x1), g, _ => by simpa only [aJ, aG, aF, List.append_nil] using aP (op := .box x0 x1)
 | .mk d (.build x0 x1), g, _ => by simpa only [aJ, aG, aF, List.append_nil] using aP (op := .build x0 x1)
 | .mk d (.bsl x0 x1 x2 x3), g, _ => by simpa only [aJ, aG, aF, List.append_nil] using aP (op := .bsl x0 x1 x2 x3)
 | .mk d (.load x0 x1), g, _ => by simpa only [aJ, aG, aF, List.append_nil] using aP (op := .load x0 x1)
 | .mk d (.store x0 x1 x2), g, _ => by simpa only [aJ, aG, aF, List.append_nil] using aP (op := .store x0 x1 x2)
 | .mk d (.nilchk x0), g, _ => by simpa only [aJ, aG, aF, List.append_nil] using aP (op := .nilchk x0)
 | .mk d (.bin x0 x1 x2), g, _ => by simpa only [aJ, aG, aF, List.append_nil] using aP (op := .bin x0 x1 x2)
 | .mk d (.eqb x0 x1 x2), g, _ => by simpa only [aJ, aG, aF, List.append_nil] using aP (op := .eqb x0 x1 x2)
 | .mk d (.eqp x0 x1 x2), g, _ => by simpa only [aJ, aG, aF, List.append_nil] using aP (op := .eqp x0 x1 x2)
 | .mk d (.eqs x0 x1 x2 x3), g, _ => by simpa only [aJ, aG, aF, List.append_nil] using aP (op := .eqs x0 x1 x2 x3)
 | .mk d (.eqn x0 x1 x2), g, _ => by simpa only [aJ, aG, aF, List.append_nil] using aP (op := .eqn x0 x1 x2)
 | .mk d (.un x0 x1), g, _ => by simpa only [aJ, aG, aF, List.append_nil] using aP (op := .un x0 x1)
 | .mk d (.cvI x0 x1), g, _ => by simpa only [aJ, aG, aF, List.append_nil] using aP (op := .cvI x0 x1)
 | .mk d (.cvS x0), g, _ => by simpa only [aJ, aG, aF, List.append_nil] using aP (op := .cvS x0)
 | .mk d (.mkfn x0 x1 x2), g, _ => by simpa only [aJ, aG, aF, List.append_nil] using aP (op := .mkfn x0 x1 x2)
 | .mk d (.mkmap), g, _ => by simpa only [aJ, aG, aF, List.append_nil] using aP (op := .mkmap)
 | .mk d (.slcS x0 x1 x2), g, _ => by simpa only [aJ, aG, aF, List.append_nil] using aP (op := .slcS x0 x1 x2)
 | .mk d (.slc x0 x1 x2 x3), g, _ => by simpa only [aJ, aG, aF, List.append_nil] using aP (op := .slc x0 x1 x2 x3)
 | .mk d (.fadr x0 x1), g, _ => by simpa only [aJ, aG, aF, List.append_nil] using aP (op := .fadr x0 x1)
 | .mk d (.fld x0 x1 x2), g, _ => by simpa only [aJ, aG, aF, List.append_nil] using aP (op := .fld x0 x1 x2)
 | .mk d (.iadr x0 x1 x2), g, _ => by simpa only [aJ, aG, aF, List.append_nil] using aP (op := .iadr x0 x1 x2)
 | .mk d (.idx x0 x1), g, _ => by simpa only [aJ, aG, aF, List.append_nil] using aP (op := .idx x0 x1)
 | .mk d (.ext x0 x1), g, _ => by simpa only [aJ, aG, aF, List.append_nil] using aP (op := .ext x0 x1)
 | .mk d (.len x0 x1), g, _ => by simpa only [aJ, aG, aF, List.append_nil] using aP (op := .len x0 x1)
 | .mk d (.app x0 x1 x2 x3 x4), g, _ => by simpa only [aJ, aG, aF, List.append_nil] using aP (op := .app x0 x1 x2 x3 x4)
 | .mk d (.appm x0 x1 x2 x3), g, _ => by simpa only [aJ, aG, aF, List.append_nil] using aP (op := .appm x0 x1 x2 x3)
 | .mk d (.appz x0 x1 x2 x3), g, _ => by simpa only [aJ, aG, aF, List.append_nil] using aP (op := .appz x0 x1 x2 x3)
 | .mk d (.stz x0 x1 x2), g, _ => by simpa only [aJ, aG, aF, List.append_nil] using aP (op := .stz x0 x1 x2)
 | .mk d (.mks x0 x1 x2 x3 x4), g, _ => by simpa only [aJ, aG, aF, List.append_nil] using aP (op := .mks x0 x1 x2 x3 x4)
 | .mk d (.slc3 x0 x1 x2 x3 x4), g, _ => by simpa only [aJ, aG, aF, List.append_nil] using aP (op := .slc3 x0 x1 x2 x3 x4)
 | .mk d (.clr x0 x1 x2), g, _ => by simpa only [aJ, aG, aF, List.append_nil] using aP (op := .clr x0 x1 x2)
 | .mk d (.mxn x0 x1 x2), g, _ => by simpa only [aJ, aG, aF, List.append_nil] using aP (op := .mxn x0 x1 x2)
 | .mk d (.look x0 x1 x2 x3 x4), g, _ => by simpa only [aJ, aG, aF, List.append_nil] using aP (op := .look x0 x1 x2 x3 x4)
 | .mk d (.mupd x0 x1 x2 x3), g, _ => by simpa only [aJ, aG, aF, List.append_nil] using aP (op := .mupd x0 x1 x2 x3)
 | .mk d (.ment x0 x1 x2 x3), g, _ => by simpa only [aJ, aG, aF, List.append_nil] using aP (op := .ment x0 x1 x2 x3)
 | .mk d (.est x0 x1 x2), g, _ => by simpa only [aJ, aG, aF, List.append_nil] using aP (op := .est x0 x1 x2)
 | .mk d (.rng x0), g, _ => by simpa only [aJ, aG, aF, List.append_nil] using aP (op := .rng x0)
 | .mk d (.nxt x0), g, _ => by simpa only [aJ, aG, aF, List.append_nil] using aP (op := .nxt x0)
 | .mk d (.ifc x0 x1), g, _ => by simpa only [aJ, aG, aF, List.append_nil] using aP (op := .ifc x0 x1)
 | .mk d (.b2s x0), g, _ => by simpa only [aJ, aG, aF, List.append_nil] using aP (op := .b2s x0)
 | .mk d (.i2s x0), g, _ => by simpa only [aJ, aG, aF, List.append_nil] using aP (op := .i2s x0)
 | .mk d (.sdata x0), g, _ => by simpa only [aJ, aG, aF, List.append_nil] using aP (op := .sdata x0)
 | .mk d (.ustr x0 x1 x2), g, _ => by simpa only [aJ, aG, aF, List.append_nil] using aP (op := .ustr x0 x1 x2)
 | .mk d (.pu x0), g, _ => by simpa only [aJ, aG, aF, List.append_nil] using aP (op := .pu x0)
 | .mk d (.up x0 x1 x2), g, _ => by simpa only [aJ, aG, aF, List.append_nil] using aP (op := .up x0 x1 x2)
 | .mk d (.call x0 x1 x2 x3), g, _ => by simpa only [aJ, aG, aF, List.append_nil] using aP (op := .call x0 x1 x2 x3)
theorem DU : ∀ (rows : List Qx) (g : Option (Nat × Bool)), okL rows = true → SkT P B w0 (lI g rows) g (bQ rows)
 | [], g, _ => by
  intro e s _ _
  simp only [lI, bQ, kY]
  exact .nil _ _
 | r :: rs, g, hok => by
  intro e s hu hg
  simp only [okL, Bool.and_eq_true] at hok
  simp only [bQ, List.mem_append, not_or] at hg
  simp only [lI, bQ]
  refine (KP r g hok.1 e s hu (fun q hq => (hg q hq).1)).append ?_
  rw [← Fi]
  exact DU rs g hok.2 _ s (hu.mono (fun q hq => kX (hg q hq).1)) (fun q hq => (hg q hq).2)
end
def nB (P : Program) (B : Nat) (w0 : World) (rows : List Qx) (env : Env) (s : St) (r : Env × St) : Prop :=
 (∀ t, t ∉ bQ rows → r.1 t = env t) ∧
 (okL rows = true → ∀ g : Option (Nat × Bool), satV g env → (∀ q, g = some q → q.1 ∉ bQ rows) → Trc P B w0 (lI g rows) env s r.1 r.2)
theorem DE (env : Env) (s : St) : nB P B w0 [] env s (env, s) := ⟨fun _ _ => rfl, fun _ g _ _ => by simp only [lI]; exact .nil _ _⟩
theorem lX {d : Option Nat} {op : AOp} {rs : List Qx} {env : Env} {s : St} {q : V × St} {r : Env × St}
  (hrow : okO op = true → ∀ g : Option (Nat × Bool), satV g env → (∀ q, g = some q → q.1 ∉ aG (.mk d op)) → Trc P B w0 (aJ g (.mk d op)) env s (put (kill env (aF op)) d q.1) q.2)
  (hrest : nB P B w0 rs (put (kill env (aF op)) d q.1) q.2 r) : nB P B w0 (.mk d op :: rs) env s r := by
 have hfr : ∀ t, t ∉ aG (.mk d op) → put (kill env (aF op)) d q.1 t = env t := by
  intro t ht
  simp only [aG, List.mem_append, not_or] at ht
  rw [gC ht.1, kX ht.2]
 refine ⟨?_, ?_⟩
 ·intro t ht
  simp only [bQ, List.mem_append, not_or] at ht
  rw [hrest.1 t ht.2, hfr t ht.1]
 ·intro hok g hs hg
  simp only [okL, okR, Bool.and_eq_true] at hok
  simp only [bQ, List.mem_append, not_or] at hg
  simp only [lI]
  exact (hrow hok.1 g hs (fun q hq => (hg q hq).1)).append (hrest.2 hok.2 g (hs.mono (fun q hq => hfr _ (hg q hq).1)) (fun q hq => (hg q hq).2))
theorem Ds {d : Option Nat} {op : AOp} {env : Env} {s : St} {q : V × St} (hf : ∀ g, aJ g (.mk d op) = [⟨d, g, op⟩]) (hd : aF op = []) (he : aZ op env s = some q)
  (g : Option (Nat × Bool)) (hs : satV g env) : Trc P B w0 (aJ g (.mk d op)) env s (put (kill env (aF op)) d q.1) q.2 := by
 rw [hf, hd, kY]
 exact .one (.run _ _ hs he)
theorem JA {d : Option Nat} {t : Nat} {and : Bool} {x b : X} {rows : List Qx} {env : Env} {s : St} {c : Bool} (hx : x.ev env = .bool c) {q : V × St}
  (hin : c = and → ∃ r, nB P B w0 rows (upd env t (.bool c)) s r ∧ q = (b.ev r.1, r.2)) (hout : c ≠ and → q = (.bool (!and), s)) (hok : okO (.sc t and x rows b) = true)
  (g : Option (Nat × Bool)) (hs : satV g env) (hg : ∀ q, g = some q → q.1 ∉ aG (.mk d (.sc t and x rows b))) :
  Trc P B w0 (aJ g (.mk d (.sc t and x rows b))) env s (put (kill env (aF (.sc t and x rows b))) d q.1) q.2 := by
 simp only [okO, Bool.and_eq_true, Bool.not_eq_true'] at hok
 have ht : t ∉ bQ rows := by simpa using hok.1
 simp only [aG, aF, List.mem_append, List.mem_cons, not_or] at hg
 simp only [aJ]
 refine .cons _ _ _ _ _ s _ (.bool c) (.run _ _ hs (by simp [aZ, hx])) ?_
 have hb : put env (some t) (.bool c) t = .bool c := by simp [put, upd]
 by_cases hca : c = and
 ·subst hca
  obtain ⟨r, hr, rfl⟩ := hin rfl
  refine (hr.2 hok.2 (some (t, c)) hb (by rintro q ⟨⟩; exact ht)).append ?_
  have hbt2 : r.1 t = .bool c := by rw [hr.1 t ht]; simp [upd]
  have hs2 : satV g r.1 := hs.mono (fun q hq => by rw [hr.1 _ (hg q hq).2.2]; simp [upd, (hg q hq).2.1])
  refine Trc.append (.one (v := b.ev r.1) (s1 := r.2) (.run _ _ hs2 ?_)) (.weak _ _ _ _ _ _ ?_ (.nil _ _))
  ·have := uD (and := c) (b := b) hbt2 r.2
   rw [if_pos rfl] at this
   exact this
  ·refine Less.put ?_ d _
   intro u
   simp only [kill]
   split
   ·exact .inr rfl
   ·rename_i hc
    have hc' : u ≠ t ∧ u ∉ bQ rows := by simpa [aF, not_or] using hc
    left
    rw [hr.1 u hc'.2]
    simp [upd, hc'.1]
 ·have hq := hout hca
  subst hq
  have huns : unsV (some (t, and)) (put env (some t) (.bool c)) := .inl (by rw [hb]; cases c <;> cases and <;> simp_all)
  refine (DU rows (some (t, and)) hok.2 _ s huns (by rintro q ⟨⟩; exact ht)).append ?_
  have hbt2 : kill (put env (some t) (.bool c)) (bQ rows) t = .bool c := by rw [kX ht, hb]
  have hs2 : satV g (kill (put env (some t) (.bool c)) (bQ rows)) := hs.mono (fun q hq => by rw [kX (hg q hq).2.2, gC (by simpa using (hg q hq).2.1)])
  refine Trc.append (.one (v := .bool (!and)) (s1 := s) (.run _ _ hs2 ?_)) (.weak _ _ _ _ _ _ ?_ (.nil _ _))
  ·have := uD (and := and) (b := b) hbt2 s
   rw [if_neg hca] at this
   exact this
  ·refine Less.put ?_ d _
   intro u
   simp only [Eng.kill]
   split
   ·exact .inr rfl
   ·rename_i hc
    have hc' : u ≠ t ∧ u ∉ bQ rows := by simpa [aF, not_or] using hc
    left
    show env u = kill (put env (some t) (.bool c)) (bQ rows) u
    rw [kX hc'.2, gC (by simpa using hc'.1)]
end
