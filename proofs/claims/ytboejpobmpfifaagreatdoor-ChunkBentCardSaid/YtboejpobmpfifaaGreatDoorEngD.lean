/-
  Regions: rows in order, guarded rows, calls. No condition.
-/
import Derived.Test.YtboejpobmpfifaaGreatDoorEngC
namespace Go.Proofs.YtboejpobmpfifaaGreatDoor.Eng
open Go Go.RowKit
set_option linter.unusedSimpArgs false

mutual
/-- A guard's slot is not written by what it guards. -/
def okO : AOp → Bool
  | .sc t _ _ rows _ => !(dstsL rows).contains t && okL rows
  | _ => true
def okR : ARow → Bool
  | .mk _ o => okO o
def okL : List ARow → Bool
  | [] => true
  | r :: rs => okR r && okL rs
end

def okC : ACode → Bool
  | .reg rows => okL rows
  | .regD _ rows => okL rows
  | .seq a b => okC a && okC b
  | .cond _ a b => okC a && okC b
  | .blk _ c => okC c
  | .loop _ c => okC c
  | .scope c => okC c
  | _ => true

section
variable {P : Program} {B : Nat} {w0 : World} {S : Sit}

/-- Operations of a region, and their rows. -/
def Seg (P : Program) (h : Hint) (ops : Array Oper) (n : Nat) : List Nat → List FRow → Prop
  | [], [] => True
  | i :: is, f :: fs => (∃ o, ops[i]? = some o ∧ cRow P h ops n o = some f) ∧ Seg P h ops n is fs
  | _, _ => False

theorem Seg.split {h : Hint} {ops : Array Oper} {n : Nat} : ∀ {f1 f2 : List FRow} {is : List Nat}, Seg P h ops n is (f1 ++ f2) →
    ∃ i1 i2, is = i1 ++ i2 ∧ Seg P h ops n i1 f1 ∧ Seg P h ops n i2 f2
  | [], f2, is, hs => ⟨[], is, rfl, trivial, hs⟩
  | f :: f1, f2, [], hs => hs.elim
  | f :: f1, f2, i :: is, hs => by
    obtain ⟨h1, h2⟩ := hs
    obtain ⟨i1, i2, rfl, g1, g2⟩ := Seg.split (f1 := f1) h2
    exact ⟨i :: i1, i2, rfl, ⟨h1, g1⟩, g2⟩

theorem cRow_ok {h : Hint} {ops : Array Oper} {n : Nat} {o : Oper} {f : FRow} (hc : cRow P h ops n o = some f) :
    cOp P h o = some f.op ∧
      (match f.guard with
        | none => o.guard = none
        | some (t, want) => ∃ j, o.guard = some (j, want) ∧ (ops[j]?).bind (·.dst) = some t) ∧
      ((isStz f.op = false ∧ f.dst = o.dst ∧ ∀ d, o.dst = some d → d < n) ∨
        ∃ k t x, f.op = .stz k (.tmp t) x ∧ f.dst = some t ∧ o.dst = none ∧ f.guard = none ∧ t < n) := by
  unfold cRow at hc
  simp only [Option.bind_eq_bind, Option.bind_eq_some_iff] at hc
  obtain ⟨g, hg, op, hop, hc⟩ := hc
  split at hc
  · rename_i k t x
    split at hc
    · rename_i hcond
      simp only [Option.pure_def, Option.some.injEq] at hc
      subst hc
      simp only [Bool.and_eq_true, Option.isNone_iff_eq_none, decide_eq_true_eq] at hcond
      exact ⟨hop, hcond.1.2, .inr ⟨k, t, x, rfl, rfl, hcond.1.1, rfl, hcond.2⟩⟩
    · cases hc
  · cases hc
  · rename_i hn1 hn2
    split at hc
    · rename_i hcond
      simp only [Option.pure_def, Option.some.injEq] at hc
      subst hc
      simp only [Bool.and_eq_true] at hcond
      refine ⟨hop, ?_, .inl ⟨?_, rfl, ?_⟩⟩
      · split at hg
        · rename_i hgd
          simp at hg; subst hg
          exact hgd
        · rename_i j want hgd
          simp only [Option.map_eq_some_iff] at hg
          obtain ⟨t, ht, rfl⟩ := hg
          exact ⟨j, hgd, ht⟩
      · cases op <;> first | rfl | exact (hn2 _ _ _ rfl).elim
      · intro d hd
        have := hcond.1
        rw [hd] at this
        simpa using this
    · cases hc

/-- A row's slot. -/
theorem cRow_dst {h : Hint} {ops : Array Oper} {n : Nat} {o : Oper} {f : FRow} (hc : cRow P h ops n o = some f) {t : Nat} (ht : f.dst = some t) : t < n := by
  obtain ⟨_, _, ⟨_, h1, h2⟩ | ⟨k, q, x, _, h1, _, _, h2⟩⟩ := cRow_ok hc
  · exact h2 t (h1 ▸ ht)
  · rw [h1] at ht; cases ht; exact h2

theorem cRow_op {h : Hint} {ops : Array Oper} {n : Nat} {o : Oper} {f : FRow} (hc : cRow P h ops n o = some f) (hz : isStz f.op = false) :
    f.dst = o.dst ∧ (∀ d, o.dst = some d → d < n) ∧ cOp P h o = some f.op := by
  obtain ⟨h0, _, ⟨_, h1, h2⟩ | ⟨k, q, x, h1, _⟩⟩ := cRow_ok hc
  · exact ⟨h1, h2, h0⟩
  · rw [h1] at hz; cases hz

/-- A guard holds. -/
def Sat (g : Option (Nat × Bool)) (a : Act) : Prop :=
  match g with
  | none => True
  | some (t, want) => a.tmps[t]? = some (.bool want)

/-- A guard does not hold. -/
def Uns (g : Option (Nat × Bool)) (a : Act) : Prop :=
  match g with
  | none => False
  | some (t, want) => a.tmps[t]? ≠ some (.bool want)

theorem wanted_sat {h : Hint} {ops : Array Oper} {n : Nat} {o : Oper} {f : FRow} (hc : cRow P h ops n o = some f) {a : Act} (hs : Sat f.guard a) :
    Region.wanted o (yielded ops a.tmps) = true := by
  obtain ⟨_, hg, _⟩ := cRow_ok hc
  cases hfg : f.guard with
  | none => rw [hfg] at hg; simp only at hg; simp [Region.wanted, hg]
  | some q =>
    obtain ⟨t, want⟩ := q
    rw [hfg] at hg hs
    obtain ⟨j, hj, hd⟩ := hg
    simp only [Sat] at hs
    simp [Region.wanted, hj, yielded, hd, hs]

theorem wanted_uns {h : Hint} {ops : Array Oper} {n : Nat} {o : Oper} {f : FRow} (hc : cRow P h ops n o = some f) {a : Act} (hs : Uns f.guard a) :
    Region.wanted o (yielded ops a.tmps) = false := by
  obtain ⟨_, hg, _⟩ := cRow_ok hc
  cases hfg : f.guard with
  | none => rw [hfg] at hs; exact hs.elim
  | some q =>
    obtain ⟨t, want⟩ := q
    rw [hfg] at hg hs
    obtain ⟨j, hj, hd⟩ := hg
    simp only [Uns] at hs
    simp only [Region.wanted, hj, yielded, hd, Option.bind_some]
    cases hq : a.tmps[t]? with
    | none => rfl
    | some c =>
      rw [hq] at hs
      cases c <;> first | rfl | skip
      rename_i b
      simp only [ne_eq, Option.some.injEq, Value.bool.injEq] at hs
      cases b <;> cases want <;> simp_all

theorem put_get (a : Act) (d : Option Nat) (v : Value) (t : Nat) (h : d ≠ some t) : (a.put d v).tmps[t]? = a.tmps[t]? := by
  cases d with
  | none => rfl
  | some d =>
    simp only [Act.put]
    rw [Array.getElem?_setIfInBounds]
    rw [if_neg (fun e => h (by rw [e]))]

theorem put_size (a : Act) (d : Option Nat) (v : Value) : (a.put d v).tmps.size = a.tmps.size := by
  cases d <;> simp [Act.put]

theorem put_defers (a : Act) (d : Option Nat) (v : Value) : (a.put d v).defers = a.defers := by
  cases d <;> rfl

theorem EnvOk.put {env : Env} {a : Act} (hE : EnvOk S env a) {d : Option Nat} {v : V} {c : Value} (hv : Rel S v c) (hd : ∀ k, d = some k → k < a.tmps.size) :
    EnvOk S (put env d v) (a.put d c) := by
  intro t
  cases d with
  | none => exact hE t
  | some d =>
    simp only [Eng.put, upd, Act.put]
    by_cases e : t = d
    · subst e
      rw [if_pos rfl, Array.getD_eq_getD_getElem?, Array.getElem?_setIfInBounds, if_pos rfl, if_pos (hd t rfl)]
      exact hv
    · rw [if_neg e, Array.getD_eq_getD_getElem?, Array.getElem?_setIfInBounds, if_neg (fun q => e q.symm), ← Array.getD_eq_getD_getElem?]
      exact hE t

theorem EnvOk.kill {env : Env} {a : Act} (hE : EnvOk S env a) (ds : List Nat) : EnvOk S (kill env ds) a := by
  intro t
  simp only [Eng.kill]
  split
  · exact .junk _
  · exact hE t

/-- What comes of rows. -/
structure Then (P : Program) (B : Nat) (w0 : World) (S : Sit) (env' : Env) (s' : St) (a : Act) (ds : List Nat) (S' : Sit) (a' : Act) : Prop where
  st : S'.st = s'
  inv : Inv B w0 S'
  ext : Ext S S'
  env : EnvOk S' env' a'
  size : a'.tmps.size = a.tmps.size
  defers : a'.defers = a.defers
  frame : ∀ t, t ∉ ds → a'.tmps[t]? = a.tmps[t]?

theorem rel_undef : Rel S (.tup []) undef := .tup [] [] .nil

theorem cBin_op {op : BinOp} {t : TypeId} {x y : X} {r : AOp} (h : cBin P op t x y = some r) : (∃ op x y, r = .bin op x y) ∨ (∃ n x y, r = .eqb n x y) ∨ (∃ n x y, r = .eqp n x y) ∨ (∃ k n x, r = .eqn k n x) ∨ (∃ n k x y, r = .eqs n k x y) := by
  unfold cBin at h
  (repeat' split at h) <;> first
    | (cases h; done)
    | (simp only [Option.some.injEq] at h; subst h; simp)

theorem cOp_stz {h : Hint} {o : Oper} {n : Nat} {p x : X} (hc : cOp P h o = some (.stz n p x)) :
    ∃ t p' x', o.op = .store t p' x' ∧ szOf P t = some n ∧ cX p' = some p ∧ cX x' = some x := by
  unfold cOp at hc
  split at hc
  case h_11 =>
    simp only [Option.bind_eq_bind, Option.bind_eq_some_iff] at hc
    obtain ⟨_, _, _, _, hc⟩ := hc
    rcases cBin_op hc with ⟨_, _, _, q⟩ | ⟨_, _, _, q⟩ | ⟨_, _, _, q⟩ | ⟨_, _, _, q⟩ | ⟨_, _, _, _, q⟩ <;> cases q
  case h_9 t p' x' hop =>
    simp only [Option.bind_eq_bind, Option.bind_eq_some_iff, Option.pure_def] at hc
    obtain ⟨m, hm, q, hq, y, hy, hc⟩ := hc
    rcases ite_pick hc with hc | hc
    · cases hc
      exact ⟨t, p', x', hop, hm, hq, hy⟩
    · cases hc
  all_goals (exfalso; first | (simp [Option.bind_eq_some_iff, Option.map_eq_some_iff] at hc; done) | skip)
  all_goals ((repeat' split at hc) <;> simp [Option.bind_eq_some_iff, Option.map_eq_some_iff] at hc)
  all_goals (try (obtain ⟨_, _, _, _, _, _, _, _, _, _, hq⟩ := hc; (repeat' split at hq) <;> simp at hq))

theorem cX_tmp {x : Operand} {t : Nat} (h : cX x = some (.tmp t)) : x = .tmp t := by
  cases x with
  | tmp u => simp [cX] at h; rw [h]
  | const v => simp [cX] at h
  | global g => simp [cX] at h
  | func f => simp [cX] at h

/-- One row, run. -/
theorem row_step {h : Hint} {ops : Array Oper} {n i : Nat} {rest : List Nat} {Q : Exit → Act → World → Prop} {o : Oper} {f : FRow} (ho : ops[i]? = some o) (hc : cRow P h ops n o = some f)
    {env : Env} {a : Act} (hI : Inv B w0 S) (hE : EnvOk S env a) (hn : n ≤ a.tmps.size) (hs : Sat f.guard a) {v : V} {s' : St} (he : evOp f.op env S.st = some (v, s'))
    (k : ∀ S' a', Then P B w0 S (put env f.dst v) s' a f.dst.toList S' a' → wpOps P ops Q rest a' S'.w) : wpOps P ops Q (i :: rest) a S.w := by
  have hw := wanted_sat hc hs
  obtain ⟨h3, _, ⟨hz, h1, h2⟩ | ⟨sz, t, x, hf, hd, hod, _, htn⟩⟩ := cRow_ok hc
  · simp only [wpOps, ho]
    rw [if_pos hw]
    obtain ⟨S', nx, hr, hst, hI', hX, hv⟩ := evOp_ok h3 hz hI hE he
    · left
      have key : ∀ c, Rel S' v c → wpOps P ops Q rest (a.put o.dst c) S'.w := by
        intro c hc'
        refine k S' _ ⟨hst, hI', hX, ?_, put_size _ _ _, put_defers _ _ _, ?_⟩
        · rw [h1]; exact (hE.mono hX).put hc' (fun d hd => Nat.lt_of_lt_of_le (h2 d hd) hn)
        · intro t ht
          rw [h1] at ht
          exact put_get _ _ _ _ (fun q => ht (by rw [q]; simp))
      unfold Oper.wp
      rw [hr]
      rcases hv with ⟨c, rfl, hc'⟩ | ⟨rfl, rfl⟩
      · exact key c hc'
      · exact key undef rel_undef
  · rw [hf] at h3 he
    obtain ⟨ty, p', x', hop, hsz, hp, hx⟩ := cOp_stz h3
    obtain ⟨S', hr, hst, hI', hX, hrel⟩ := stz_ok hI hsz (cX_ok hE hp) (cX_ok hE hx) he
    simp only [wpOps, ho]
    rw [if_pos hw]
    left
    have hap : a.put o.dst undef = a := by rw [hod]; rfl
    have hrun : (execOp a.eval o).run P S.w = .ok .skip S'.w := by
      simp only [execOp, hop]; exact run_u hr
    have hgo : wpOps P ops Q rest a S'.w := by
      refine k S' a ⟨hst, hI', hX, ?_, rfl, rfl, fun _ _ => rfl⟩
      rw [hd]
      intro u
      simp only [Eng.put, upd]
      split
      · rename_i e
        subst e
        rw [cX_tmp hp] at hrel
        exact hrel
      · exact (hE u).mono hX
    unfold Oper.wp
    rw [hrun]
    have hgo' : wpOps P ops Q rest (a.put o.dst undef) S'.w := by rw [hap]; exact hgo
    exact hgo'

/-- One row, passed by. -/
theorem row_skip {h : Hint} {ops : Array Oper} {n i : Nat} {rest : List Nat} {Q : Exit → Act → World → Prop} {o : Oper} {f : FRow} (ho : ops[i]? = some o) (hc : cRow P h ops n o = some f)
    {a : Act} (hs : Uns f.guard a) {w : World} (k : wpOps P ops Q rest (a.put f.dst undef) w) : wpOps P ops Q (i :: rest) a w := by
  have hw := wanted_uns hc hs
  obtain ⟨h3, _, ⟨_, h1, _⟩ | ⟨sz, t, x, _, _, _, hg, _⟩⟩ := cRow_ok hc
  · simp only [wpOps, ho]
    rw [if_neg (by rw [hw]; simp), ← h1]
    exact k
  · rw [hg] at hs
    exact hs.elim

/-- A callee does what the evaluator says. -/
def CallOk (P : Program) (g : FuncId) (cargs : Array Value) (w : World) (R : Ending → World → Prop) : Prop :=
  ((callFunc g cargs).run P w = .ok (.enter g cargs) w ∧ Calls P g cargs w R) ∨ (∃ v w', (callFunc g cargs).run P w = .ok (.value v) w' ∧ R (.returned v) w')

def SoundCall (P : Program) (B : Nat) (w0 : World) (f : FuncId) (args : List V) (s : St) (r : V × St) : Prop :=
  ∀ (S : Sit) (cargs : List Value), S.st = s → Inv B w0 S → RelL S args cargs →
    CallOk P f cargs.toArray S.w fun e w' => ∃ c S', e = .returned c ∧ S'.w = w' ∧ S'.st = r.2 ∧ Inv B w0 S' ∧ Ext S S' ∧ Rel S' r.1 c

theorem cOp_call {h : Hint} {o : Oper} {own qu : Bool} {fx : X} {as : List X} (hc : cOp P h o = some (.call own qu fx as)) :
    ∃ f args argTypes, o.op = .call ⟨.value f, args, argTypes⟩ ∧ cX f = some fx ∧ args.toList.mapM cX = some as := by
  unfold cOp at hc
  split at hc
  case h_38 f args argTypes hop =>
    simp only [Option.bind_eq_bind, Option.bind_eq_some_iff, Option.pure_def, Option.some.injEq, AOp.call.injEq] at hc
    obtain ⟨f', hf, as', has, _, _, rfl, rfl⟩ := hc
    exact ⟨f, args, argTypes, hop, hf, has⟩
  case h_11 =>
    simp only [Option.bind_eq_bind, Option.bind_eq_some_iff] at hc
    obtain ⟨_, _, _, _, hc⟩ := hc
    rcases cBin_op hc with ⟨_, _, _, q⟩ | ⟨_, _, _, q⟩ | ⟨_, _, _, q⟩ | ⟨_, _, _, q⟩ | ⟨_, _, _, _, q⟩ <;> cases q
  all_goals (exfalso; first | (simp [Option.bind_eq_some_iff, Option.map_eq_some_iff] at hc; done) | skip)
  all_goals ((repeat' split at hc) <;> simp [Option.bind_eq_some_iff, Option.map_eq_some_iff] at hc)
  all_goals (try (obtain ⟨_, _, _, _, _, _, _, _, _, _, hq⟩ := hc; (repeat' split at hq) <;> simp at hq))
  all_goals (try (obtain ⟨_, _, _, _, _, _, hq⟩ := hc; rcases ite_pick hq with hq | hq <;> cases hq))

theorem cOp_no_sc {h : Hint} {o : Oper} {t : Nat} {and : Bool} {x : X} {rows : List ARow} {b : X} (hc : cOp P h o = some (.sc t and x rows b)) : False := by
  unfold cOp at hc
  split at hc
  case h_11 =>
    simp only [Option.bind_eq_bind, Option.bind_eq_some_iff] at hc
    obtain ⟨_, _, _, _, hc⟩ := hc
    rcases cBin_op hc with ⟨_, _, _, q⟩ | ⟨_, _, _, q⟩ | ⟨_, _, _, q⟩ | ⟨_, _, _, q⟩ | ⟨_, _, _, _, q⟩ <;> cases q
  all_goals (first | (simp [Option.bind_eq_some_iff, Option.map_eq_some_iff] at hc; done) | skip)
  all_goals ((repeat' split at hc) <;> simp [Option.bind_eq_some_iff, Option.map_eq_some_iff] at hc)
  all_goals (try (obtain ⟨_, _, _, _, _, _, _, _, _, _, hq⟩ := hc; (repeat' split at hq) <;> simp at hq))
  all_goals (try (obtain ⟨_, _, _, _, _, _, hq⟩ := hc; rcases ite_pick hq with hq | hq <;> cases hq))

end
end Go.Proofs.YtboejpobmpfifaaGreatDoor.Eng
