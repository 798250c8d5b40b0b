/-
  Regions that draw their order: whatever the order, the rows come to what they come to in the text's order. No condition.
-/
import Derived.Test.YtaljmhlblanhaaaEngJ
namespace Go.Proofs.Ytaljmhlblanhaaa.Eng
open Go Go.RowKit
set_option linter.unusedSimpArgs false

section
variable {P : Program} {B : Nat} {w0 : World} {S : Sit}

/-- A trace, as sequences. -/
structure Seqs (P : Program) (B : Nat) (w0 : World) (fs : List FRow) (e : Env) (s : St) (e' : Env) (s' : St) where
  E : Nat → Env
  V : Nat → V
  T : Nat → St
  first : Less (E 0) e
  firstT : T 0 = s
  last : E fs.length = e'
  lastT : T fs.length = s'
  sem : ∀ i f, fs[i]? = some f → RowSem P B w0 f (E i) (T i) (V i) (T (i + 1))
  step : ∀ i f, fs[i]? = some f → Less (E (i + 1)) (put (E i) f.dst (V i))

theorem Trc.seqs {fs : List FRow} {e e' : Env} {s s' : St} (h : Trc P B w0 fs e s e' s') : Nonempty (Seqs P B w0 fs e s e' s') := by
  induction h with
  | nil e s => exact ⟨⟨fun _ => e, fun _ => .junk, fun _ => s, Less.refl _, rfl, rfl, rfl, fun i f h => by simp at h, fun i f h => by simp at h⟩⟩
  | cons f fs e e' s s1 s' v hr _ ih =>
    obtain ⟨q⟩ := ih
    refine ⟨⟨fun i => if i = 0 then e else q.E (i - 1), fun i => if i = 0 then v else q.V (i - 1), fun i => if i = 0 then s else q.T (i - 1), by simp [Less.refl], by simp, by simpa using q.last, by simpa using q.lastT, ?_, ?_⟩⟩
    · intro i g hi
      cases i with
      | zero =>
        simp at hi
        subst hi
        simpa [q.firstT] using hr
      | succ i =>
        simp at hi
        simpa using q.sem i g hi
    · intro i g hi
      cases i with
      | zero =>
        simp at hi
        subst hi
        simpa using q.first
      | succ i =>
        simp at hi
        simpa using q.step i g hi
  | weak fs e e1 e' s s' hl _ ih =>
    obtain ⟨q⟩ := ih
    exact ⟨⟨q.E, q.V, q.T, q.first.trans hl, q.firstT, q.last, q.lastT, q.sem, q.step⟩⟩

/-- What a slot holds: the value of the row that wrote it, or what was there. -/
theorem Seqs.env {fs : List FRow} {e e' : Env} {s s' : St} (q : Seqs P B w0 fs e s e' s') (t : Nat) : ∀ j, j ≤ fs.length →
    q.E j t = .junk ∨ (∃ i f, i < j ∧ fs[i]? = some f ∧ f.dst = some t ∧ q.E j t = q.V i) ∨ ((∀ i f, i < j → fs[i]? = some f → f.dst ≠ some t) ∧ q.E j t = e t) := by
  intro j
  induction j with
  | zero =>
    intro _
    rcases q.first t with h | h
    · exact .inr (.inr ⟨fun i f hi => by omega, h⟩)
    · exact .inl h
  | succ j ih =>
    intro hj
    have hf : fs[j]? = some fs[j] := List.getElem?_eq_getElem (by omega)
    rcases q.step j _ hf t with h | h
    · by_cases hd : fs[j].dst = some t
      · right; left
        refine ⟨j, _, by omega, hf, hd, ?_⟩
        rw [h, hd]
        simp [put, upd]
      · have hp : put (q.E j) fs[j].dst (q.V j) t = q.E j t := put_get' (by
          intro hm
          cases hq : fs[j].dst with
          | none => rw [hq] at hm; simp at hm
          | some d => rw [hq] at hm hd; simp at hm; exact hd (by rw [hm]))
        rw [hp] at h
        rcases ih (by omega) with k | ⟨i, f, hi, k1, k2, k3⟩ | ⟨k1, k2⟩
        · exact .inl (h.trans k)
        · exact .inr (.inl ⟨i, f, by omega, k1, k2, h.trans k3⟩)
        · refine .inr (.inr ⟨?_, h.trans k2⟩)
          intro i f hi hfi
          rcases Nat.lt_or_ge i j with hlt | hge
          · exact k1 i f hlt hfi
          · have : i = j := by omega
            subst this
            rw [hf] at hfi
            cases hfi
            exact hd
    · exact .inl h

/-- What is known of the slots that a row looks at. -/
def only (ts : List Nat) (e : Env) : Env := fun t => if t ∈ ts then e t else .junk

theorem sat_of {f : FRow} {e : Env} {a : Act} (hs : satV f.guard e) (hu : ∀ t, t ∈ f.uses → Rel S (e t) (a.tmps.getD t undef)) : Sat f.guard a := by
  unfold FRow.uses at hu
  cases hg : f.guard with
  | none => trivial
  | some q =>
    obtain ⟨t, want⟩ := q
    rw [hg] at hs hu
    simp only [satV] at hs
    have := hu t (by simp [usesG])
    rw [hs] at this
    have := this.bool_inv
    rw [Array.getD_eq_getD_getElem?] at this
    simp only [Sat]
    cases hq : a.tmps[t]? with
    | none => rw [hq] at this; simp [undef] at this
    | some c => rw [hq] at this; simp at this; rw [this]

theorem uns_of {f : FRow} {e : Env} {a : Act} (hs : unsV f.guard e) (hu : ∀ t, t ∈ f.uses → Rel S (e t) (a.tmps.getD t undef)) : Uns f.guard a := by
  unfold FRow.uses at hu
  cases hg : f.guard with
  | none => rw [hg] at hs; exact hs.elim
  | some q =>
    obtain ⟨t, want⟩ := q
    rw [hg] at hs hu
    simp only [unsV] at hs
    have hr := hu t (by simp [usesG])
    simp only [Uns]
    intro hc
    rw [Array.getD_eq_getD_getElem?, hc] at hr
    simp only [Option.getD_some] at hr
    rcases hs with hs | hs
    · rw [hs] at hr
      have := hr.bool_inv
      cases want <;> simp at this
    · rw [hs] at hr
      obtain ⟨cc, hq, _⟩ := hr.tup_inv
      cases hq

/-- One row, run, in whatever order. -/
theorem sem_step {h : Hint} {ops : Array Oper} {n i : Nat} {Q : Exit → Act → World → Prop} {K : Act → World → Prop} {o : Oper} {f : FRow} (ho : ops[i]? = some o) (hc : cRow P h ops n o = some f)
    {e : Env} {a : Act} (hI : Inv B w0 S) (hu : ∀ t, t ∈ f.uses → Rel S (e t) (a.tmps.getD t undef)) {v : V} {s' : St} (hr : RowSem P B w0 f e S.st v s')
    (k : ∀ S' c, S'.st = s' → Inv B w0 S' → Ext S S' → Rel S' v c → K (a.put f.dst c) S'.w) : wpOp P ops Q i K a S.w := by
  obtain ⟨h1, h2, h3, _⟩ := cRow_ok hc
  unfold wpOp
  simp only [ho]
  have hE : EnvOk S (only (usesO f.op) e) a := by
    intro t
    simp only [only]
    split
    · rename_i ht
      exact hu t (by simp [FRow.uses, ht])
    · exact .junk _
  have hcg : ∀ t, t ∈ usesO f.op → only (usesO f.op) e t = e t := fun t ht => by simp [only, ht]
  cases hr with
  | skip hs =>
    rw [if_neg (by rw [wanted_uns hc (uns_of hs hu)]; simp), ← h1]
    exact k S undef rfl hI (Ext.refl S) rel_undef
  | run _ _ hs he =>
    rw [if_pos (wanted_sat hc (sat_of hs hu))]
    rw [← evOp_congr hcg] at he
    obtain ⟨S', nx, hr, hst, hI', hX, hv⟩ := evOp_ok h3 hI hE he
    · left
      unfold Oper.wp
      rw [hr]
      rcases hv with ⟨c, rfl, hc'⟩ | ⟨rfl, rfl⟩
      · show K (a.put o.dst c) S'.w
        rw [← h1]; exact k S' c hst hI' hX hc'
      · show K (a.put o.dst undef) S'.w
        rw [← h1]; exact k S' undef hst hI' hX rel_undef
  | call own qu fx as g first cap _ _ hs hop hf hcall _ =>
    rw [if_pos (wanted_sat hc (sat_of hs hu))]
    rw [hop] at h3
    obtain ⟨fo, args, argTypes, hoo, hfx, has⟩ := cOp_call h3
    have hfv := cX_ok hE hfx
    rw [hop] at hcg hE
    simp only [usesO, List.mem_append] at hcg
    rw [hop] at hfv
    simp only [usesO] at hfv
    rw [ev_congr (x := fx) (fun t ht => hcg t (.inl ht)), hf] at hfv
    obtain ⟨cx, cy, hfc, hcx, hcy⟩ := hfv.fn_inv
    have hargs := arg_rel hE own args.toList as has
    have hcong : (as.map fun x => if own = true then x.ev (only (usesO (.call own qu fx as)) e) else (x.ev (only (usesO (.call own qu fx as)) e)).plain) =
        as.map fun x => if own = true then x.ev e else (x.ev e).plain := by
      refine List.map_congr_left fun x hx => ?_
      have hq : x.ev (only (usesO (.call own qu fx as)) e) = x.ev e := ev_congr (x := x) (fun t ht => hcg t (.inr (List.mem_flatMap.2 ⟨x, hx, ht⟩)))
      rw [hq]
    rw [hcong] at hargs
    have hall : RelL S (first ++ as.map (fun x => if own = true then x.ev e else (x.ev e).plain) ++ cap) (cx ++ args.toList.map a.eval ++ cy) := (hcx.append hargs).append hcy
    have hok := hcall S _ rfl hI hall
    have key : ∀ (c : Value) (S' : Sit), S'.st = s' → Inv B w0 S' → Ext S S' → Rel S' v c → K (a.put o.dst c) S'.w := by
      intro c S' hst hI' hX hrel
      rw [← h1]
      exact k S' c hst hI' hX hrel
    have hexec : ∀ w, (execOp a.eval o).run P w = (callFunc g (cx ++ args.toList.map a.eval ++ cy).toArray).run P w := by
      intro w
      have hl : (cx.toArray ++ args.map a.eval) ++ cy.toArray = (cx ++ args.toList.map a.eval ++ cy).toArray := by
        apply Array.ext'
        simp
      simp only [execOp, hoo, resolve, hfc, Deferred.ofValue, Sem.run_bind, Sem.run_pure, Result.andThen_ok, invoke, hl]
    left
    unfold Oper.wp
    rw [hexec]
    rcases hok with ⟨hr, hcalls⟩ | ⟨v, w', hr, hR⟩
    · rw [hr, Oper.upon_enter]
      refine hcalls.mono ?_
      rintro e w' ⟨c, S', rfl, rfl, hst, hI', hX, hrel⟩
      · exact key c S' hst hI' hX hrel
    · rw [hr, Oper.upon_value]
      obtain ⟨c, S', hc', rfl, hst, hI', hX, hrel⟩ := hR
      · cases hc'
        exact key _ S' hst hI' hX hrel

/-- What reads leaves the store. -/
theorem evOp_reads {op : AOp} (hp : isLoud ⟨none, none, op⟩ = false) {e : Env} {s s1 : St} {v : V} (h : evOp op e s = some (v, s1)) : s1 = s := by
  cases hc : cls op with
  | pure => exact (evOp_pure hc h).1
  | turns => simp [isLoud, hc] at hp
  | reads =>
    cases op <;> simp only [cls] at hc <;> try (cases hc; done)
    case load n x =>
      simp only [evOp, evLoad] at h
      (repeat' split at h) <;> first | (obtain ⟨u, _, _, rfl⟩ := map_pair h; rfl) | cases h
    case len k x =>
      simp only [evOp, evLen] at h
      (repeat' split at h) <;> first | (simp only [Option.some.injEq, Prod.mk.injEq] at h; exact h.2.symm) | cases h
    case look k z o m x =>
      simp only [evOp, evLookup] at h
      (repeat' split at h) <;> first | (obtain ⟨u, _, _, rfl⟩ := map_pair h; rfl) | cases h
    case call o q f x => simp [evOp] at h
    case slc n x a b =>
      simp only [evOp] at h
      obtain ⟨u, _, _, rfl⟩ := map_pair h
      rfl
    case slc3 n x a b c =>
      simp only [evOp] at h
      obtain ⟨u, _, _, rfl⟩ := map_pair h
      rfl
    case sdata x =>
      simp only [evOp] at h
      (repeat' split at h) <;> first | (simp only [Option.some.injEq, Prod.mk.injEq] at h; exact h.2.symm) | cases h
    case ustr e x y =>
      simp only [evOp] at h
      (repeat' split at h) <;> first | (obtain ⟨u, _, _, rfl⟩ := map_pair h; rfl) | (simp only [Option.some.injEq, Prod.mk.injEq] at h; exact h.2.symm) | cases h
    case pu x =>
      simp only [evOp] at h
      (repeat' split at h) <;> first | (simp only [Option.some.injEq, Prod.mk.injEq] at h; exact h.2.symm) | cases h
    case up u n x =>
      simp only [evOp] at h
      (repeat' split at h) <;> first | (simp only [Option.some.injEq, Prod.mk.injEq] at h; exact h.2.symm) | cases h

theorem RowSem.quiet {f : FRow} {e : Env} {s s1 : St} {v : V} (h : RowSem P B w0 f e s v s1) (hl : isLoud f = false) : s1 = s := by
  cases h with
  | run _ _ _ he => exact evOp_reads (op := f.op) hl he
  | skip _ => rfl
  | call own qu fx as g first cap _ _ _ hop _ _ hq =>
    cases qu with
    | true => exact hq rfl
    | false => simp [isLoud, hop, cls] at hl

theorem RowSem.pure {f : FRow} {e : Env} {s s1 : St} {v : V} (h : RowSem P B w0 f e s v s1) (hl : isPure f = true) (s2 : St) : RowSem P B w0 f e s2 v s2 := by
  cases h with
  | run _ _ hs he =>
    have hc : cls f.op = .pure := by
      unfold isPure at hl
      split at hl
      · assumption
      · cases hl
    exact .run _ _ hs ((evOp_pure hc he).2 s2)
  | skip hs => exact .skip hs
  | call own qu fx as g first cap _ _ _ hop _ _ hq =>
    cases qu <;> simp [isPure, hop, cls] at hl

/-- What 'drawOk' says. -/
theorem drawOk_spec {ops : Array Oper} {fs : List FRow} (h : drawOk ops fs = true) {i : Nat} {f : FRow} (hf : fs[i]? = some f) :
    (∀ j, j ∈ ahead ops i → j < i) ∧ ∀ j g, fs[j]? = some g →
      (∀ t, g.dst = some t → (i ≠ j → f.dst ≠ some t) ∧ (t ∈ f.uses → (j < i ∧ j ∈ ahead ops i) ∨ (i ≤ j ∧ (i = j ∨ i ∈ ahead ops j)))) ∧
      (j < i → (isLoud g = true ∧ isPure f = false ∨ isLoud f = true ∧ isPure g = false) → j ∈ ahead2 ops i i) := by
  unfold drawOk at h
  rw [List.all_eq_true] at h
  have hm : ∀ {i f}, fs[i]? = some f → (f, i) ∈ fs.zipIdx := fun {i f} hf => by
    rw [List.mem_zipIdx_iff_getElem?]; exact hf
  have h1 := h _ (hm hf)
  simp only [Bool.and_eq_true, List.all_eq_true, decide_eq_true_eq] at h1
  refine ⟨h1.1, ?_⟩
  intro j g hg
  have h2 := h1.2 _ (hm hg)
  simp only [Bool.and_eq_true, Bool.or_eq_true, Bool.not_eq_true', beq_iff_eq, bne_iff_ne, ne_eq] at h2
  refine ⟨?_, ?_⟩
  · intro t ht
    have h3 := h2.1
    rw [ht] at h3
    simp only [Bool.and_eq_true, Bool.or_eq_true, Bool.not_eq_true', beq_iff_eq, bne_iff_ne, ne_eq, decide_eq_true_eq, List.contains_iff_mem] at h3
    refine ⟨fun hne => (h3.1.resolve_left hne), fun hu => ?_⟩
    rcases h3.2 with (h4 | h4) | h4
    · have := List.contains_iff_mem.2 hu
      rw [this] at h4
      cases h4
    · exact .inl h4
    · exact .inr h4
  · intro hlt hl
    rcases h2.2 with h3 | h3
    · simp only [Bool.and_eq_false_iff, decide_eq_false_iff_not, Bool.or_eq_false_iff, Bool.not_eq_false'] at h3
      rcases h3 with h3 | h3
      · exact absurd hlt h3
      · rcases hl with ⟨a, b⟩ | ⟨a, b⟩
        · rcases h3.1 with h4 | h4
          · rw [a] at h4; cases h4
          · rw [b] at h4; cases h4
        · rcases h3.2 with h4 | h4
          · rw [a] at h4; cases h4
          · rw [b] at h4; cases h4
    · simpa using h3

/-- What is listed is closed: what stands ahead of it is listed too. -/
def Closed (ops : Array Oper) (L : Array Bool) : Prop := ∀ i, L.getD i false = true → ∀ j, j ∈ ahead ops i → L.getD j false = true

theorem Closed.far {ops : Array Oper} {L : Array Bool} (h : Closed ops L) : ∀ (k i j : Nat), L.getD i false = true → j ∈ ahead2 ops k i → L.getD j false = true
  | 0, i, j, _, hj => by simp [ahead2] at hj
  | k + 1, i, j, hi, hj => by
    simp only [ahead2, List.mem_flatMap, List.mem_cons] at hj
    obtain ⟨m, hm, rfl | hj⟩ := hj
    · exact h i hi _ hm
    · exact h.far k m j (h i hi m hm) hj

/-- Those ahead of one that may come up are listed. -/
theorem far_ready {ops : Array Oper} {L : Array Bool} (h : Closed ops L) {k i j : Nat} (hr : ∀ j, j ∈ ahead ops i → L.getD j false = true) (hj : j ∈ ahead2 ops k i) : L.getD j false = true := by
  cases k with
  | zero => simp [ahead2] at hj
  | succ k =>
    simp only [ahead2, List.mem_flatMap, List.mem_cons] at hj
    obtain ⟨m, hm, rfl | hj⟩ := hj
    · exact hr _ hm
    · exact h.far k m j (hr m hm) hj

theorem mem_ahead {ops : Array Oper} {i j : Nat} : j ∈ ahead ops i ↔ ∃ o, ops[i]? = some o ∧ ∃ e, e ∈ o.after ∧ Region.binds .any e = true ∧ e.on = j := by
  unfold ahead
  cases ho : ops[i]? with
  | none => simp
  | some o =>
    simp only [List.mem_map, List.mem_filter, Array.mem_toList_iff, Option.some.injEq, exists_eq_left']
    constructor
    · rintro ⟨e, ⟨h1, h2⟩, h3⟩; exact ⟨e, h1, h2, h3⟩
    · rintro ⟨e, h1, h2, h3⟩; exact ⟨e, ⟨h1, h2⟩, h3⟩

theorem ready_iff {ops : Array Oper} {L : Array Bool} (hL : L.size = ops.size) {j : Nat} : j ∈ Region.ready .any ops L ↔
    j < ops.size ∧ L.getD j false = false ∧ ∀ i, i ∈ ahead ops j → L.getD i false = true := by
  rw [mem_ready]
  constructor
  · rintro ⟨h0, o, ho, hall⟩
    have hlt : j < ops.size := (Array.getElem?_eq_some_iff.1 ho).1
    refine ⟨hlt, ?_, ?_⟩
    · rw [Array.getD_eq_getD_getElem?] at h0 ⊢
      rw [Array.getElem?_eq_getElem (by omega)] at h0 ⊢
      simpa using h0
    · intro i hi
      obtain ⟨o', ho', e, he, hb, rfl⟩ := mem_ahead.1 hi
      rw [ho] at ho'
      cases ho'
      exact hall e he hb
  · rintro ⟨hlt, h0, hall⟩
    refine ⟨?_, _, Array.getElem?_eq_getElem hlt, fun e he hb => hall _ (mem_ahead.2 ⟨_, Array.getElem?_eq_getElem hlt, e, he, hb, rfl⟩)⟩
    rw [Array.getD_eq_getD_getElem?] at h0 ⊢
    rw [Array.getElem?_eq_getElem (by omega)] at h0 ⊢
    simpa using h0

theorem set_getD {L : Array Bool} {i j : Nat} (hi : i < L.size) : (L.setIfInBounds i true).getD j false = if i = j then true else L.getD j false := by
  by_cases h : i = j
  · subst h
    simp [hi]
  · rw [if_neg h, getD_set_ne false h]

end
end Go.Proofs.Ytaljmhlblanhaaa.Eng
