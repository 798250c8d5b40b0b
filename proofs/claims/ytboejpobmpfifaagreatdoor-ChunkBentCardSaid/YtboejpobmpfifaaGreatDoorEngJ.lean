/-
  What rows come to, one by one; rows passed by. No condition.
-/
import Derived.Test.YtboejpobmpfifaaGreatDoorEngI
namespace Go.Proofs.YtboejpobmpfifaaGreatDoor.Eng
open Go Go.RowKit
set_option linter.unusedSimpArgs false

section
variable {P : Program} {B : Nat} {w0 : World} {S : Sit}

def satV (g : Option (Nat × Bool)) (e : Env) : Prop :=
  match g with
  | none => True
  | some (t, want) => e t = .bool want

def unsV (g : Option (Nat × Bool)) (e : Env) : Prop :=
  match g with
  | none => False
  | some (t, want) => e t = .bool (!want) ∨ e t = .tup []

/-- What one row comes to. -/
inductive RowSem (P : Program) (B : Nat) (w0 : World) (f : FRow) (e : Env) (s : St) : V → St → Prop
  | run (v : V) (s' : St) : satV f.guard e → evOp f.op e s = some (v, s') → RowSem P B w0 f e s v s'
  | fr (fx : X) (as : List X) (g : FuncId) (first cap : List V) (v : V) (s' : St) : satV f.guard e → f.op = .call true true fx as → fx.ev e = .fn (.func g) first cap →
      Framed P B w0 g (first ++ as.map (fun x => (x.ev e).plain) ++ cap) s v s' → RowSem P B w0 f e s v s'
  | call (own qu : Bool) (fx : X) (as : List X) (g : FuncId) (first cap : List V) (v : V) (s' : St) : (own && qu) = false → satV f.guard e → f.op = .call own qu fx as → fx.ev e = .fn (.func g) first cap →
      SoundCall P B w0 g (first ++ as.map (fun x => if own = true then x.ev e else (x.ev e).plain) ++ cap) s (v, s') →
      (qu = true → s' = s ∧ undL s.obs.length s.bufs.length (first ++ as.map (fun x => if own = true then x.ev e else (x.ev e).plain) ++ cap) = true) → RowSem P B w0 f e s v s'
  | skip : unsV f.guard e → RowSem P B w0 f e s (.tup []) s

/-- Less is known. -/
def Less (e e' : Env) : Prop := ∀ t, e t = e' t ∨ e t = .junk

/-- Rows in the text's order. -/
inductive Trc (P : Program) (B : Nat) (w0 : World) : List FRow → Env → St → Env → St → Prop
  | nil (e : Env) (s : St) : Trc P B w0 [] e s e s
  | cons (f : FRow) (fs : List FRow) (e e' : Env) (s s1 s' : St) (v : V) : RowSem P B w0 f e s v s1 → Trc P B w0 fs (put e f.dst v) s1 e' s' → Trc P B w0 (f :: fs) e s e' s'
  | weak (fs : List FRow) (e e1 e' : Env) (s s' : St) : Less e1 e → Trc P B w0 fs e1 s e' s' → Trc P B w0 fs e s e' s'

theorem Less.refl (e : Env) : Less e e := fun _ => .inl rfl
theorem Less.trans {e e' e'' : Env} (h : Less e e') (k : Less e' e'') : Less e e'' := fun t => by
  rcases h t with h | h
  · rw [h]; exact k t
  · exact .inr h
theorem Less.kill (e : Env) (ds : List Nat) : Less (kill e ds) e := fun t => by
  simp only [Eng.kill]
  split
  · exact .inr rfl
  · exact .inl rfl

theorem Less.put {e e' : Env} (h : Less e e') (d : Option Nat) (v : V) : Less (put e d v) (put e' d v) := fun t => by
  cases d with
  | none => exact h t
  | some d =>
    simp only [Eng.put, upd]
    split
    · exact .inl rfl
    · exact h t

theorem Trc.append {fs gs : List FRow} {e e1 e' : Env} {s s1 s' : St} (h : Trc P B w0 fs e s e1 s1) (k : Trc P B w0 gs e1 s1 e' s') : Trc P B w0 (fs ++ gs) e s e' s' := by
  induction h with
  | nil e s => exact k
  | cons f fs e e' s s1 s' v hr _ ih => exact .cons f _ e _ s s1 _ v hr (ih k)
  | weak fs e e1 e' s s' hl _ ih => exact .weak _ e e1 _ s _ hl (ih k)

theorem Trc.one {f : FRow} {e : Env} {s s1 : St} {v : V} (h : RowSem P B w0 f e s v s1) : Trc P B w0 [f] e s (put e f.dst v) s1 := .cons f [] e _ s s1 s1 v h (.nil _ _)

/-- Rows passed by come to nothing: what they write is not known. -/
def SkT (P : Program) (B : Nat) (w0 : World) (fs : List FRow) (g : Option (Nat × Bool)) (ds : List Nat) : Prop :=
  ∀ (e : Env) (s : St), unsV g e → (∀ q, g = some q → q.1 ∉ ds) → Trc P B w0 fs e s (kill e ds) s

theorem unsV.mono {g : Option (Nat × Bool)} {e e' : Env} (h : unsV g e) (k : ∀ q, g = some q → e' q.1 = e q.1) : unsV g e' := by
  cases g with
  | none => exact h
  | some q =>
    obtain ⟨t, w⟩ := q
    simp only [unsV] at h ⊢
    rw [k _ rfl]
    exact h

theorem satV.mono {g : Option (Nat × Bool)} {e e' : Env} (h : satV g e) (k : ∀ q, g = some q → e' q.1 = e q.1) : satV g e' := by
  cases g with
  | none => exact h
  | some q =>
    obtain ⟨t, w⟩ := q
    simp only [satV] at h ⊢
    rw [k _ rfl]
    exact h

theorem kill_get {e : Env} {ds : List Nat} {t : Nat} (h : t ∉ ds) : kill e ds t = e t := by
  simp only [Eng.kill]
  rw [if_neg (by simpa using h)]

theorem put_get' {e : Env} {d : Option Nat} {v : V} {t : Nat} (h : t ∉ d.toList) : put e d v t = e t := by
  cases d with
  | none => rfl
  | some d =>
    have : t ≠ d := fun q => h (by simp [q])
    simp [put, upd, this]

theorem less_kill_put {e : Env} {d : Option Nat} {v : V} {ds : List Nat} (h : ∀ t, t ∈ d.toList → t ∈ ds) : Less (kill e ds) (put e d v) := fun t => by
  simp only [Eng.kill]
  split
  · exact .inr rfl
  · rename_i hc
    have : t ∉ d.toList := fun q => hc (by simpa using h t q)
    exact .inl (put_get' this).symm

theorem tskip_op {d : Option Nat} {op : AOp} {g : Option (Nat × Bool)} : SkT P B w0 [⟨d, g, op⟩] g d.toList := by
  intro e s hu _
  refine Trc.append (.one (.skip hu)) (.weak _ _ _ _ _ _ (less_kill_put (fun t ht => ht)) (.nil _ _))

theorem kill_kill (e : Env) (a b : List Nat) : kill (kill e a) b = kill e (a ++ b) := by
  funext t
  by_cases h1 : t ∈ a <;> by_cases h2 : t ∈ b <;> simp [kill, h1, h2]

mutual
theorem tskipR : ∀ (r : ARow) (g : Option (Nat × Bool)), okR r = true → SkT P B w0 (flatR g r) g (dstsR r)
  | .mk d (.sc t and x rows b), g, hok => by
    intro e s hu hg
    simp only [okR, okO, Bool.and_eq_true, Bool.not_eq_true'] at hok
    have ht : t ∉ dstsL rows := by simpa using hok.1
    simp only [dstsR, dstsO, List.mem_append, List.mem_cons, not_or] at hg
    simp only [flatR]
    refine .cons _ _ _ _ _ s _ (.tup []) (.skip hu) ?_
    have hu1 : unsV (some (t, and)) (put e (some t) (.tup [])) := .inr (by simp [put, upd])
    refine (tskipL rows (some (t, and)) hok.2 _ s hu1 (by rintro q ⟨⟩; exact ht)).append ?_
    have hu2 : unsV g (kill (put e (some t) (.tup [])) (dstsL rows)) := hu.mono (fun q hq => by
      rw [kill_get (hg q hq).2.2, put_get' (by simpa using (hg q hq).2.1)])
    refine Trc.append (.one (.skip hu2)) (.weak _ _ _ _ _ _ ?_ (.nil _ _))
    intro u
    simp only [Eng.kill]
    split
    · exact .inr rfl
    · rename_i hc
      have hc' : u ∉ d.toList ∧ u ≠ t ∧ u ∉ dstsL rows := by simpa [dstsR, dstsO, not_or] using hc
      left
      rw [put_get' hc'.1]
      show e u = kill (put e (some t) (.tup [])) (dstsL rows) u
      rw [kill_get hc'.2.2, put_get' (by simpa using hc'.2.1)]
  | .mk d (.mov x0), g, _ => by simpa only [flatR, dstsR, dstsO, List.append_nil] using tskip_op (op := .mov x0)
  | .mk d (.nilb x0), g, _ => by simpa only [flatR, dstsR, dstsO, List.append_nil] using tskip_op (op := .nilb x0)
  | .mk d (.pick x0 x1 x2), g, _ => by simpa only [flatR, dstsR, dstsO, List.append_nil] using tskip_op (op := .pick x0 x1 x2)
  | .mk d (.new x0 x1), g, _ => by simpa only [flatR, dstsR, dstsO, List.append_nil] using tskip_op (op := .new x0 x1)
  | .mk d (.box x0 x1), g, _ => by simpa only [flatR, dstsR, dstsO, List.append_nil] using tskip_op (op := .box x0 x1)
  | .mk d (.build x0 x1), g, _ => by simpa only [flatR, dstsR, dstsO, List.append_nil] using tskip_op (op := .build x0 x1)
  | .mk d (.bsl x0 x1 x2 x3), g, _ => by simpa only [flatR, dstsR, dstsO, List.append_nil] using tskip_op (op := .bsl x0 x1 x2 x3)
  | .mk d (.load x0 x1), g, _ => by simpa only [flatR, dstsR, dstsO, List.append_nil] using tskip_op (op := .load x0 x1)
  | .mk d (.store x0 x1 x2), g, _ => by simpa only [flatR, dstsR, dstsO, List.append_nil] using tskip_op (op := .store x0 x1 x2)
  | .mk d (.nilchk x0), g, _ => by simpa only [flatR, dstsR, dstsO, List.append_nil] using tskip_op (op := .nilchk x0)
  | .mk d (.bin x0 x1 x2), g, _ => by simpa only [flatR, dstsR, dstsO, List.append_nil] using tskip_op (op := .bin x0 x1 x2)
  | .mk d (.eqb x0 x1 x2), g, _ => by simpa only [flatR, dstsR, dstsO, List.append_nil] using tskip_op (op := .eqb x0 x1 x2)
  | .mk d (.eqp x0 x1 x2), g, _ => by simpa only [flatR, dstsR, dstsO, List.append_nil] using tskip_op (op := .eqp x0 x1 x2)
  | .mk d (.eqs x0 x1 x2 x3), g, _ => by simpa only [flatR, dstsR, dstsO, List.append_nil] using tskip_op (op := .eqs x0 x1 x2 x3)
  | .mk d (.eqn x0 x1 x2), g, _ => by simpa only [flatR, dstsR, dstsO, List.append_nil] using tskip_op (op := .eqn x0 x1 x2)
  | .mk d (.un x0 x1), g, _ => by simpa only [flatR, dstsR, dstsO, List.append_nil] using tskip_op (op := .un x0 x1)
  | .mk d (.cvI x0 x1), g, _ => by simpa only [flatR, dstsR, dstsO, List.append_nil] using tskip_op (op := .cvI x0 x1)
  | .mk d (.cvS x0), g, _ => by simpa only [flatR, dstsR, dstsO, List.append_nil] using tskip_op (op := .cvS x0)
  | .mk d (.mkfn x0 x1 x2), g, _ => by simpa only [flatR, dstsR, dstsO, List.append_nil] using tskip_op (op := .mkfn x0 x1 x2)
  | .mk d (.mkmap), g, _ => by simpa only [flatR, dstsR, dstsO, List.append_nil] using tskip_op (op := .mkmap)
  | .mk d (.slcS x0 x1 x2), g, _ => by simpa only [flatR, dstsR, dstsO, List.append_nil] using tskip_op (op := .slcS x0 x1 x2)
  | .mk d (.slc x0 x1 x2 x3), g, _ => by simpa only [flatR, dstsR, dstsO, List.append_nil] using tskip_op (op := .slc x0 x1 x2 x3)
  | .mk d (.fadr x0 x1), g, _ => by simpa only [flatR, dstsR, dstsO, List.append_nil] using tskip_op (op := .fadr x0 x1)
  | .mk d (.fld x0 x1 x2), g, _ => by simpa only [flatR, dstsR, dstsO, List.append_nil] using tskip_op (op := .fld x0 x1 x2)
  | .mk d (.iadr x0 x1 x2), g, _ => by simpa only [flatR, dstsR, dstsO, List.append_nil] using tskip_op (op := .iadr x0 x1 x2)
  | .mk d (.idx x0 x1), g, _ => by simpa only [flatR, dstsR, dstsO, List.append_nil] using tskip_op (op := .idx x0 x1)
  | .mk d (.ext x0 x1), g, _ => by simpa only [flatR, dstsR, dstsO, List.append_nil] using tskip_op (op := .ext x0 x1)
  | .mk d (.len x0 x1), g, _ => by simpa only [flatR, dstsR, dstsO, List.append_nil] using tskip_op (op := .len x0 x1)
  | .mk d (.app x0 x1 x2 x3 x4), g, _ => by simpa only [flatR, dstsR, dstsO, List.append_nil] using tskip_op (op := .app x0 x1 x2 x3 x4)
  | .mk d (.appm x0 x1 x2 x3), g, _ => by simpa only [flatR, dstsR, dstsO, List.append_nil] using tskip_op (op := .appm x0 x1 x2 x3)
  | .mk d (.appz x0 x1 x2 x3), g, _ => by simpa only [flatR, dstsR, dstsO, List.append_nil] using tskip_op (op := .appz x0 x1 x2 x3)
  | .mk d (.stz x0 x1 x2), g, _ => by simpa only [flatR, dstsR, dstsO, List.append_nil] using tskip_op (op := .stz x0 x1 x2)
  | .mk d (.mks x0 x1 x2 x3 x4), g, _ => by simpa only [flatR, dstsR, dstsO, List.append_nil] using tskip_op (op := .mks x0 x1 x2 x3 x4)
  | .mk d (.slc3 x0 x1 x2 x3 x4), g, _ => by simpa only [flatR, dstsR, dstsO, List.append_nil] using tskip_op (op := .slc3 x0 x1 x2 x3 x4)
  | .mk d (.clr x0 x1 x2), g, _ => by simpa only [flatR, dstsR, dstsO, List.append_nil] using tskip_op (op := .clr x0 x1 x2)
  | .mk d (.mxn x0 x1 x2), g, _ => by simpa only [flatR, dstsR, dstsO, List.append_nil] using tskip_op (op := .mxn x0 x1 x2)
  | .mk d (.look x0 x1 x2 x3 x4), g, _ => by simpa only [flatR, dstsR, dstsO, List.append_nil] using tskip_op (op := .look x0 x1 x2 x3 x4)
  | .mk d (.mupd x0 x1 x2 x3), g, _ => by simpa only [flatR, dstsR, dstsO, List.append_nil] using tskip_op (op := .mupd x0 x1 x2 x3)
  | .mk d (.ment x0 x1 x2 x3), g, _ => by simpa only [flatR, dstsR, dstsO, List.append_nil] using tskip_op (op := .ment x0 x1 x2 x3)
  | .mk d (.est x0 x1 x2), g, _ => by simpa only [flatR, dstsR, dstsO, List.append_nil] using tskip_op (op := .est x0 x1 x2)
  | .mk d (.rng x0), g, _ => by simpa only [flatR, dstsR, dstsO, List.append_nil] using tskip_op (op := .rng x0)
  | .mk d (.nxt x0), g, _ => by simpa only [flatR, dstsR, dstsO, List.append_nil] using tskip_op (op := .nxt x0)
  | .mk d (.ifc x0 x1), g, _ => by simpa only [flatR, dstsR, dstsO, List.append_nil] using tskip_op (op := .ifc x0 x1)
  | .mk d (.b2s x0), g, _ => by simpa only [flatR, dstsR, dstsO, List.append_nil] using tskip_op (op := .b2s x0)
  | .mk d (.i2s x0), g, _ => by simpa only [flatR, dstsR, dstsO, List.append_nil] using tskip_op (op := .i2s x0)
  | .mk d (.sdata x0), g, _ => by simpa only [flatR, dstsR, dstsO, List.append_nil] using tskip_op (op := .sdata x0)
  | .mk d (.ustr x0 x1 x2), g, _ => by simpa only [flatR, dstsR, dstsO, List.append_nil] using tskip_op (op := .ustr x0 x1 x2)
  | .mk d (.pu x0), g, _ => by simpa only [flatR, dstsR, dstsO, List.append_nil] using tskip_op (op := .pu x0)
  | .mk d (.up x0 x1 x2), g, _ => by simpa only [flatR, dstsR, dstsO, List.append_nil] using tskip_op (op := .up x0 x1 x2)
  | .mk d (.call x0 x1 x2 x3), g, _ => by simpa only [flatR, dstsR, dstsO, List.append_nil] using tskip_op (op := .call x0 x1 x2 x3)
theorem tskipL : ∀ (rows : List ARow) (g : Option (Nat × Bool)), okL rows = true → SkT P B w0 (flatL g rows) g (dstsL rows)
  | [], g, _ => by
    intro e s _ _
    simp only [flatL, dstsL, kill_nil]
    exact .nil _ _
  | r :: rs, g, hok => by
    intro e s hu hg
    simp only [okL, Bool.and_eq_true] at hok
    simp only [dstsL, List.mem_append, not_or] at hg
    simp only [flatL, dstsL]
    refine (tskipR r g hok.1 e s hu (fun q hq => (hg q hq).1)).append ?_
    rw [← kill_kill]
    exact tskipL rs g hok.2 _ s (hu.mono (fun q hq => kill_get (hg q hq).1)) (fun q hq => (hg q hq).2)
end

/-- Rows in the text's order, come to what the evaluator says. -/
def SoundT (P : Program) (B : Nat) (w0 : World) (rows : List ARow) (env : Env) (s : St) (r : Env × St) : Prop :=
  (∀ t, t ∉ dstsL rows → r.1 t = env t) ∧
  (okL rows = true → ∀ g : Option (Nat × Bool), satV g env → (∀ q, g = some q → q.1 ∉ dstsL rows) → Trc P B w0 (flatL g rows) env s r.1 r.2)

theorem soundT_nil (env : Env) (s : St) : SoundT P B w0 [] env s (env, s) := ⟨fun _ _ => rfl, fun _ g _ _ => by simp only [flatL]; exact .nil _ _⟩

theorem soundT_cons {d : Option Nat} {op : AOp} {rs : List ARow} {env : Env} {s : St} {q : V × St} {r : Env × St}
    (hrow : okO op = true → ∀ g : Option (Nat × Bool), satV g env → (∀ q, g = some q → q.1 ∉ dstsR (.mk d op)) → Trc P B w0 (flatR g (.mk d op)) env s (put (kill env (dstsO op)) d q.1) q.2)
    (hrest : SoundT P B w0 rs (put (kill env (dstsO op)) d q.1) q.2 r) : SoundT P B w0 (.mk d op :: rs) env s r := by
  have hfr : ∀ t, t ∉ dstsR (.mk d op) → put (kill env (dstsO op)) d q.1 t = env t := by
    intro t ht
    simp only [dstsR, List.mem_append, not_or] at ht
    rw [put_get' ht.1, kill_get ht.2]
  refine ⟨?_, ?_⟩
  · intro t ht
    simp only [dstsL, List.mem_append, not_or] at ht
    rw [hrest.1 t ht.2, hfr t ht.1]
  · intro hok g hs hg
    simp only [okL, okR, Bool.and_eq_true] at hok
    simp only [dstsL, List.mem_append, not_or] at hg
    simp only [flatL]
    exact (hrow hok.1 g hs (fun q hq => (hg q hq).1)).append (hrest.2 hok.2 g (hs.mono (fun q hq => hfr _ (hg q hq).1)) (fun q hq => (hg q hq).2))

theorem rowT_plain {d : Option Nat} {op : AOp} {env : Env} {s : St} {q : V × St} (hf : ∀ g, flatR g (.mk d op) = [⟨d, g, op⟩]) (hd : dstsO op = []) (he : evOp op env s = some q)
    (g : Option (Nat × Bool)) (hs : satV g env) : Trc P B w0 (flatR g (.mk d op)) env s (put (kill env (dstsO op)) d q.1) q.2 := by
  rw [hf, hd, kill_nil]
  exact .one (.run _ _ hs he)

theorem rowT_sc {d : Option Nat} {t : Nat} {and : Bool} {x b : X} {rows : List ARow} {env : Env} {s : St} {c : Bool} (hx : x.ev env = .bool c) {q : V × St}
    (hin : c = and → ∃ r, SoundT P B w0 rows (upd env t (.bool c)) s r ∧ q = (b.ev r.1, r.2)) (hout : c ≠ and → q = (.bool (!and), s)) (hok : okO (.sc t and x rows b) = true)
    (g : Option (Nat × Bool)) (hs : satV g env) (hg : ∀ q, g = some q → q.1 ∉ dstsR (.mk d (.sc t and x rows b))) :
    Trc P B w0 (flatR g (.mk d (.sc t and x rows b))) env s (put (kill env (dstsO (.sc t and x rows b))) d q.1) q.2 := by
  simp only [okO, Bool.and_eq_true, Bool.not_eq_true'] at hok
  have ht : t ∉ dstsL rows := by simpa using hok.1
  simp only [dstsR, dstsO, List.mem_append, List.mem_cons, not_or] at hg
  simp only [flatR]
  refine .cons _ _ _ _ _ s _ (.bool c) (.run _ _ hs (by simp [evOp, hx])) ?_
  have hb : put env (some t) (.bool c) t = .bool c := by simp [put, upd]
  by_cases hca : c = and
  · subst hca
    obtain ⟨r, hr, rfl⟩ := hin rfl
    refine (hr.2 hok.2 (some (t, c)) hb (by rintro q ⟨⟩; exact ht)).append ?_
    have hbt2 : r.1 t = .bool c := by rw [hr.1 t ht]; simp [upd]
    have hs2 : satV g r.1 := hs.mono (fun q hq => by rw [hr.1 _ (hg q hq).2.2]; simp [upd, (hg q hq).2.1])
    refine Trc.append (.one (v := b.ev r.1) (s1 := r.2) (.run _ _ hs2 ?_)) (.weak _ _ _ _ _ _ ?_ (.nil _ _))
    · have := pick_ok (and := c) (b := b) hbt2 r.2
      rw [if_pos rfl] at this
      exact this
    · refine Less.put ?_ d _
      intro u
      simp only [kill]
      split
      · exact .inr rfl
      · rename_i hc
        have hc' : u ≠ t ∧ u ∉ dstsL rows := by simpa [dstsO, not_or] using hc
        left
        rw [hr.1 u hc'.2]
        simp [upd, hc'.1]
  · have hq := hout hca
    subst hq
    have huns : unsV (some (t, and)) (put env (some t) (.bool c)) := .inl (by rw [hb]; cases c <;> cases and <;> simp_all)
    refine (tskipL rows (some (t, and)) hok.2 _ s huns (by rintro q ⟨⟩; exact ht)).append ?_
    have hbt2 : kill (put env (some t) (.bool c)) (dstsL rows) t = .bool c := by rw [kill_get ht, hb]
    have hs2 : satV g (kill (put env (some t) (.bool c)) (dstsL rows)) := hs.mono (fun q hq => by rw [kill_get (hg q hq).2.2, put_get' (by simpa using (hg q hq).2.1)])
    refine Trc.append (.one (v := .bool (!and)) (s1 := s) (.run _ _ hs2 ?_)) (.weak _ _ _ _ _ _ ?_ (.nil _ _))
    · have := pick_ok (and := and) (b := b) hbt2 s
      rw [if_neg hca] at this
      exact this
    · refine Less.put ?_ d _
      intro u
      simp only [Eng.kill]
      split
      · exact .inr rfl
      · rename_i hc
        have hc' : u ≠ t ∧ u ∉ dstsL rows := by simpa [dstsO, not_or] using hc
        left
        show env u = kill (put env (some t) (.bool c)) (dstsL rows) u
        rw [kill_get hc'.2, put_get' (by simpa using hc'.1)]

end
end Go.Proofs.YtboejpobmpfifaaGreatDoor.Eng
