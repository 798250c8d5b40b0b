/-
  Regions: the evaluator's rows, run. No condition.
-/
import Derived.Test.YtboejpobmpfifaaGreatDoorEngE
namespace Go.Proofs.YtboejpobmpfifaaGreatDoor.Eng
open Go Go.RowKit
set_option linter.unusedSimpArgs false

section
variable {P : Program} {B : Nat} {w0 : World} {S : Sit}

def SoundR (P : Program) (B : Nat) (w0 : World) (rows : List ARow) (env : Env) (s : St) (r : Env × St) : Prop :=
  (∀ t, t ∉ dstsL rows → r.1 t = env t) ∧
  (okL rows = true → ∀ (h : Hint) (ops : Array Oper) (n : Nat) (g : Option (Nat × Bool)) (is rest : List Nat) (Q : Exit → Act → World → Prop) (S : Sit) (a : Act),
    Seg P h ops n is (flatL g rows) → Sat g a → (∀ q, g = some q → q.1 ∉ dstsL rows) → S.st = s → Inv B w0 S → EnvOk S env a → n ≤ a.tmps.size →
    (∀ S' a', Then P B w0 S r.1 r.2 a (dstsL rows) S' a' → wpOps P ops Q rest a' S'.w) → wpOps P ops Q (is ++ rest) a S.w)

theorem Sat.mono {g : Option (Nat × Bool)} {a a' : Act} {ds : List Nat} (hf : ∀ t, t ∉ ds → a'.tmps[t]? = a.tmps[t]?) (hg : ∀ q, g = some q → q.1 ∉ ds) (hu : Sat g a) : Sat g a' := by
  cases g with
  | none => trivial
  | some q =>
    obtain ⟨t, want⟩ := q
    simp only [Sat] at hu ⊢
    rw [hf t (hg _ rfl)]
    exact hu

theorem kill_nil (env : Env) : kill env [] = env := by
  funext t
  simp [kill]

theorem arg_rel {env : Env} {a : Act} (hE : EnvOk S env a) (own : Bool) : ∀ (l : List Operand) (ys : List X), l.mapM cX = some ys →
    RelL S (ys.map fun x => if own = true then x.ev env else (x.ev env).plain) (l.map a.eval)
  | [], ys, h => by simp at h; subst h; exact .nil
  | x :: l, ys, h => by
    simp only [List.mapM_cons, Option.bind_eq_bind, Option.bind_eq_some_iff, Option.pure_def, Option.some.injEq] at h
    obtain ⟨y, hy, ys', hys, rfl⟩ := h
    refine .cons _ _ _ _ ?_ (arg_rel hE own l ys' hys)
    cases own with
    | true => exact cX_ok hE hy
    | false => exact (cX_ok hE hy).plain

/-- One call, run. -/
theorem call_step {h : Hint} {ops : Array Oper} {n i : Nat} {rest : List Nat} {Q : Exit → Act → World → Prop} {o : Oper} {f : FRow} (ho : ops[i]? = some o) (hc : cRow P h ops n o = some f)
    {env : Env} {a : Act} (hI : Inv B w0 S) (hE : EnvOk S env a) (hn : n ≤ a.tmps.size) (hs : Sat f.guard a) {own qu : Bool} (pl : Bool) {fx : X} {as : List X} (hop : f.op = .call own qu fx as)
    {g : FuncId} {first cap : List V} (hf : fx.ev env = .fn (.func g) first cap) {q : V × St}
    (hcall : SoundCall P B w0 g (first ++ as.map (fun x => if pl = true then x.ev env else (x.ev env).plain) ++ cap) S.st q)
    (k : ∀ S' a', Then P B w0 S (put env f.dst q.1) q.2 a f.dst.toList S' a' → wpOps P ops Q rest a' S'.w) : wpOps P ops Q (i :: rest) a S.w := by
  obtain ⟨h1, h2, h3⟩ := cRow_op hc (by rw [hop]; rfl)
  rw [hop] at h3
  obtain ⟨fo, args, argTypes, hoo, hfx, has⟩ := cOp_call h3
  have hfv := cX_ok hE hfx
  rw [hf] at hfv
  obtain ⟨cx, cy, hfc, hcx, hcy⟩ := hfv.fn_inv
  have hargs := arg_rel hE pl args.toList as has
  have hall : RelL S (first ++ as.map (fun x => if pl = true then x.ev env else (x.ev env).plain) ++ cap) (cx ++ args.toList.map a.eval ++ cy) := (hcx.append hargs).append hcy
  have hok := hcall S _ rfl hI hall
  have key : ∀ (c : Value) (S' : Sit), S'.st = q.2 → Inv B w0 S' → Ext S S' → Rel S' q.1 c → wpOps P ops Q rest (a.put o.dst c) S'.w := by
    intro c S' hst hI' hX hrel
    refine k S' _ ⟨hst, hI', hX, ?_, put_size _ _ _, put_defers _ _ _, ?_⟩
    · rw [h1]; exact (hE.mono hX).put hrel (fun d hd => Nat.lt_of_lt_of_le (h2 d hd) hn)
    · intro t ht
      rw [h1] at ht
      exact put_get _ _ _ _ (fun q => ht (by rw [q]; simp))
  have hexec : ∀ w, (execOp a.eval o).run P w = (callFunc g (cx ++ args.toList.map a.eval ++ cy).toArray).run P w := by
    intro w
    have hl : (cx.toArray ++ args.map a.eval) ++ cy.toArray = (cx ++ args.toList.map a.eval ++ cy).toArray := by
      apply Array.ext'
      simp
    simp only [execOp, hoo, resolve, hfc, Deferred.ofValue, Sem.run_bind, Sem.run_pure, Result.andThen_ok, invoke, hl]
  simp only [wpOps, ho]
  rw [if_pos (wanted_sat hc hs)]
  left
  unfold Oper.wp
  rw [hexec]
  rcases hok with ⟨hr, hcalls⟩ | ⟨v, w', hr, hR⟩
  · rw [hr, Oper.upon_enter]
    refine hcalls.mono ?_
    rintro e w' ⟨c, S', rfl, rfl, hst, hI', hX, hrel⟩
    · exact key c S' hst hI' hX hrel
  · rw [hr, Oper.upon_value]
    obtain ⟨c, S', hc', rfl, hst, hI', hX, hrel⟩ := hR
    · cases hc'
      exact key _ S' hst hI' hX hrel

/-- The last row of a guarded piece. -/
theorem pick_ok {and : Bool} {t : Nat} {b : X} {env : Env} {c : Bool} (ht : env t = .bool c) (s : St) :
    evOp (if and then .pick (.tmp t) b (.c (.bool false)) else .pick (.tmp t) (.c (.bool true)) b) env s = some (if c = and then b.ev env else .bool (!and), s) := by
  cases and <;> cases c <;> simp [evOp, X.ev, ht]

theorem soundR_nil (env : Env) (s : St) : SoundR P B w0 [] env s (env, s) := by
  refine ⟨fun _ _ => rfl, ?_⟩
  intro _ h ops n g is rest Q S a hs _ _ hst hI hE hn k
  cases is with
  | nil => exact k S a ⟨hst, hI, Ext.refl S, hE, rfl, rfl, fun _ _ => rfl⟩
  | cons _ _ => exact hs.elim

/-- A row ahead of others. -/
theorem soundR_cons {d : Option Nat} {op : AOp} {rs : List ARow} {env : Env} {s : St} {q : V × St} {r : Env × St}
    (hrow : okO op = true → ∀ (h : Hint) (ops : Array Oper) (n : Nat) (g : Option (Nat × Bool)) (is rest : List Nat) (Q : Exit → Act → World → Prop) (S : Sit) (a : Act),
      Seg P h ops n is (flatR g (.mk d op)) → Sat g a → (∀ q, g = some q → q.1 ∉ dstsR (.mk d op)) → S.st = s → Inv B w0 S → EnvOk S env a → n ≤ a.tmps.size →
      (∀ S' a', Then P B w0 S (put (kill env (dstsO op)) d q.1) q.2 a (dstsR (.mk d op)) S' a' → wpOps P ops Q rest a' S'.w) → wpOps P ops Q (is ++ rest) a S.w)
    (hrest : SoundR P B w0 rs (put (kill env (dstsO op)) d q.1) q.2 r) : SoundR P B w0 (.mk d op :: rs) env s r := by
  refine ⟨?_, ?_⟩
  · intro t ht
    simp only [dstsL, dstsR, List.mem_append, not_or] at ht
    rw [hrest.1 t ht.2]
    cases d with
    | none => simp [put, kill, ht.1.2]
    | some d =>
      have : t ≠ d := fun e => ht.1.1 (by simp [e])
      simp [put, upd, kill, this, ht.1.2]
  · intro hok h ops n g is rest Q S a hs hsat hg hst hI hE hn k
    simp only [okL, okR, Bool.and_eq_true] at hok
    simp only [flatL] at hs
    obtain ⟨i1, i2, rfl, hs1, hs2⟩ := hs.split
    simp only [dstsL, List.mem_append, not_or] at hg
    rw [List.append_assoc]
    refine hrow hok.1 h ops n g i1 (i2 ++ rest) Q S a hs1 hsat (fun q hq => (hg q hq).1) hst hI hE hn ?_
    intro S1 a1 t1
    refine hrest.2 hok.2 h ops n g i2 rest Q S1 a1 hs2 (hsat.mono t1.frame (fun q hq => (hg q hq).1)) (fun q hq => (hg q hq).2) t1.st t1.inv t1.env (by rw [t1.size]; exact hn) ?_
    intro S2 a2 t2
    exact k S2 a2 (by have := t1.trans t2; simpa only [dstsL] using this)

/-- A plain row. -/
theorem row_plain {d : Option Nat} {op : AOp} {env : Env} {s : St} {q : V × St} (hf : ∀ g, flatR g (.mk d op) = [⟨d, g, op⟩]) (hd : dstsO op = []) (he : evOp op env s = some q) :
    ∀ (h : Hint) (ops : Array Oper) (n : Nat) (g : Option (Nat × Bool)) (is rest : List Nat) (Q : Exit → Act → World → Prop) (S : Sit) (a : Act),
      Seg P h ops n is (flatR g (.mk d op)) → Sat g a → (∀ q, g = some q → q.1 ∉ dstsR (.mk d op)) → S.st = s → Inv B w0 S → EnvOk S env a → n ≤ a.tmps.size →
      (∀ S' a', Then P B w0 S (put (kill env (dstsO op)) d q.1) q.2 a (dstsR (.mk d op)) S' a' → wpOps P ops Q rest a' S'.w) → wpOps P ops Q (is ++ rest) a S.w := by
  intro h ops n g is rest Q S a hs hsat _ hst hI hE hn k
  rw [hf] at hs
  cases is with
  | nil => exact hs.elim
  | cons i is =>
    obtain ⟨⟨o, ho, hc⟩, hs⟩ := hs
    cases is with
    | cons _ _ => exact hs.elim
    | nil =>
      subst hst
      refine row_step ho hc (f := ⟨d, g, op⟩) hI hE hn hsat he ?_
      intro S' a' t
      refine k S' a' ?_
      rw [hd, kill_nil, dstsR, hd, List.append_nil]
      exact t

/-- A guarded piece. -/
theorem row_sc {d : Option Nat} {t : Nat} {and : Bool} {x b : X} {rows : List ARow} {env : Env} {s : St} {c : Bool} (hx : x.ev env = .bool c) {q : V × St}
    (hin : c = and → ∃ r, SoundR P B w0 rows (upd env t (.bool c)) s r ∧ q = (b.ev r.1, r.2)) (hout : c ≠ and → q = (.bool (!and), s)) :
    okO (.sc t and x rows b) = true → ∀ (h : Hint) (ops : Array Oper) (n : Nat) (g : Option (Nat × Bool)) (is rest : List Nat) (Q : Exit → Act → World → Prop) (S : Sit) (a : Act),
      Seg P h ops n is (flatR g (.mk d (.sc t and x rows b))) → Sat g a → (∀ q, g = some q → q.1 ∉ dstsR (.mk d (.sc t and x rows b))) → S.st = s → Inv B w0 S → EnvOk S env a → n ≤ a.tmps.size →
      (∀ S' a', Then P B w0 S (put (kill env (dstsO (.sc t and x rows b))) d q.1) q.2 a (dstsR (.mk d (.sc t and x rows b))) S' a' → wpOps P ops Q rest a' S'.w) → wpOps P ops Q (is ++ rest) a S.w := by
  intro hok h ops n g is rest Q S a hs hsat hg hst hI hE hn k
  simp only [okO, Bool.and_eq_true, Bool.not_eq_true'] at hok
  have ht : t ∉ dstsL rows := by simpa using hok.1
  simp only [flatR] at hs
  simp only [dstsR, dstsO, List.mem_append, List.mem_cons, not_or] at hg
  cases is with
  | nil => exact hs.elim
  | cons i is =>
    obtain ⟨⟨o, ho, hc⟩, hs⟩ := hs
    obtain ⟨i1, i2, rfl, hs1, hs2⟩ := hs.split
    cases i2 with
    | nil => exact hs2.elim
    | cons j i2 =>
      obtain ⟨⟨o', ho', hc'⟩, hs3⟩ := hs2
      cases i2 with
      | cons _ _ => exact hs3.elim
      | nil =>
        simp only [List.cons_append, List.append_assoc, List.nil_append]
        refine row_step ho hc (f := ⟨some t, g, .mov x⟩) hI hE hn hsat (v := .bool c) (s' := S.st) (by simp [evOp, hx]) ?_
        intro S1 a1 t1
        simp only [Option.toList_some] at t1
        have htg : ∀ q, g = some q → q.1 ∉ [t] := fun q hq => by simp [(hg q hq).2.1]
        have hsat1 : Sat g a1 := hsat.mono t1.frame htg
        have hdt : t < n := cRow_dst hc rfl
        have hbt : a1.tmps[t]? = some (.bool c) := by
          have := t1.env t
          simp only [put, upd, if_true] at this
          have hv := this.bool_inv
          have hlt : t < a1.tmps.size := by rw [t1.size]; exact Nat.lt_of_lt_of_le hdt hn
          rw [Array.getD_eq_getD_getElem?, Array.getElem?_eq_getElem hlt] at hv
          rw [Array.getElem?_eq_getElem hlt]
          simpa using hv
        by_cases hca : c = and
        · subst hca
          obtain ⟨r, hr, rfl⟩ := hin rfl
          refine hr.2 hok.2 h ops n (some (t, c)) i1 _ Q S1 a1 hs1 hbt (by rintro q ⟨⟩; exact ht) (t1.st.trans hst) t1.inv t1.env (by rw [t1.size]; exact hn) ?_
          intro S2 a2 t2
          have hsat2 : Sat g a2 := hsat1.mono t2.frame (fun q hq => (hg q hq).2.2)
          have hbt2 : r.1 t = .bool c := by
            rw [hr.1 t ht]
            simp [upd]
          refine row_step ho' hc' (f := ⟨d, g, _⟩) t2.inv t2.env (by rw [t2.size, t1.size]; exact hn) hsat2 (v := b.ev r.1) (s' := S2.st) (by
            have := pick_ok (and := c) (b := b) hbt2 S2.st
            rw [if_pos rfl] at this
            exact this) ?_
          intro S3 a3 t3
          refine k S3 a3 ?_
          have t123 := (t1.trans t2).trans t3
          refine ⟨t123.st.trans t2.st, t123.inv, t123.ext, ?_, t123.size, t123.defers, ?_⟩
          · intro u
            have hu := t3.env u
            cases d with
            | none =>
              simp only [put] at hu ⊢
              simp only [kill]
              split
              · exact .junk _
              · rename_i hcu
                have hcu' : u ∉ t :: dstsL rows := by simpa [dstsO] using hcu
                simp only [List.mem_cons, not_or] at hcu'
                rw [hr.1 u hcu'.2] at hu
                simpa [upd, hcu'.1] using hu
            | some d =>
              simp only [put, upd] at hu ⊢
              by_cases hud : u = d
              · rw [if_pos hud] at hu ⊢
                exact hu
              · rw [if_neg hud] at hu ⊢
                simp only [kill]
                split
                · exact .junk _
                · rename_i hcu
                  have hcu' : u ∉ t :: dstsL rows := by simpa [dstsO] using hcu
                  simp only [List.mem_cons, not_or] at hcu'
                  rw [hr.1 u hcu'.2] at hu
                  simpa [upd, hcu'.1] using hu
          · intro u hu
            refine t123.frame u ?_
            simp only [dstsR, dstsO, List.mem_append, List.mem_cons, not_or] at hu
            simp only [List.cons_append, List.nil_append, List.mem_append, List.mem_cons, not_or]
            exact ⟨hu.2.1, hu.2.2, hu.1⟩
        · have hq := hout hca
          subst hq
          have huns : Uns (some (t, and)) a1 := by
            simp only [Uns, hbt]
            intro e
            simp only [Option.some.injEq, Value.bool.injEq] at e
            exact hca e
          refine skipL rows (some (t, and)) i1 a1 hok.2 hs1 huns (by rintro q ⟨⟩; exact ht) ?_
          intro a2 s2
          have hsat2 : Sat g a2 := hsat1.mono s2.frame (fun q hq => (hg q hq).2.2)
          have hE2 : EnvOk S1 (kill (upd env t (.bool c)) (dstsL rows)) a2 := s2.env t1.env
          have hbt2 : kill (upd env t (.bool c)) (dstsL rows) t = .bool c := by
            have : (dstsL rows).contains t = false := by simpa using ht
            simp [kill, this, upd, ht]
          refine row_step ho' hc' (f := ⟨d, g, _⟩) t1.inv hE2 (by rw [s2.size, t1.size]; exact hn) hsat2 (v := .bool (!and)) (s' := S1.st) (by
            have := pick_ok (and := and) (b := b) hbt2 S1.st
            rw [if_neg hca] at this
            exact this) ?_
          intro S3 a3 t3
          refine k S3 a3 ⟨(t3.st.trans t1.st).trans hst, t3.inv, t1.ext.trans t3.ext, ?_, t3.size.trans (s2.size.trans t1.size), t3.defers.trans (s2.defers.trans t1.defers), ?_⟩
          · intro u
            have hu := t3.env u
            cases d with
            | none =>
              simp only [put] at hu ⊢
              simp only [kill]
              split
              · exact .junk _
              · rename_i hcu
                have hcu' : u ∉ t :: dstsL rows := by simpa [dstsO] using hcu
                simp only [List.mem_cons, not_or] at hcu'
                simpa [kill, upd, hcu'.1, hcu'.2] using hu
            | some d =>
              simp only [put, upd] at hu ⊢
              by_cases hud : u = d
              · rw [if_pos hud] at hu ⊢
                exact hu
              · rw [if_neg hud] at hu ⊢
                simp only [kill]
                split
                · exact .junk _
                · rename_i hcu
                  have hcu' : u ∉ t :: dstsL rows := by simpa [dstsO] using hcu
                  simp only [List.mem_cons, not_or] at hcu'
                  simpa [kill, upd, hcu'.1, hcu'.2] using hu
          · intro u hu
            simp only [dstsR, dstsO, List.mem_append, List.mem_cons, not_or] at hu
            rw [t3.frame u hu.1, s2.frame u hu.2.2, t1.frame u (by simp [hu.2.1])]

end
end Go.Proofs.YtboejpobmpfifaaGreatDoor.Eng
