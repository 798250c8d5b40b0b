/-
  Regions that draw their order: the theorem. No condition.
-/
import Derived.Test.YtaljmhlblanhaaaEngK
namespace Go.Proofs.Ytaljmhlblanhaaa.Eng
open Go Go.RowKit
set_option linter.unusedSimpArgs false

section
variable {P : Program} {B : Nat} {w0 : World} {S : Sit}

theorem countP_lt {p p' : Nat → Bool} : ∀ {l : List Nat} {x : Nat}, x ∈ l → p x = true → p' x = false → (∀ y, p' y = true → p y = true) → l.countP p' < l.countP p
  | y :: l, x, hx, h1, h2, h => by
    have hle : l.countP p' ≤ l.countP p := List.countP_mono_left (fun y _ => h y)
    rw [List.countP_cons, List.countP_cons]
    rcases List.mem_cons.1 hx with rfl | hx
    · rw [h1, h2]; simp; omega
    · have := countP_lt hx h1 h2 h
      cases hq : p' y with
      | true => rw [h y hq]; simp; omega
      | false => simp; split <;> omega

theorem mapM_get {α β : Type} {f : α → Option β} : ∀ {l : List α} {r : List β}, l.mapM f = some r → r.length = l.length ∧ ∀ (i : Nat) (a : α) (b : β), l[i]? = some a → r[i]? = some b → f a = some b
  | [], r, h => by
    simp at h; subst h
    exact ⟨rfl, fun i a b h => by simp at h⟩
  | x :: l, r, h => by
    simp only [List.mapM_cons, Option.bind_eq_bind, Option.bind_eq_some_iff, Option.pure_def, Option.some.injEq] at h
    obtain ⟨y, hy, r', hr, rfl⟩ := h
    obtain ⟨h1, h2⟩ := mapM_get hr
    refine ⟨by simp [h1], ?_⟩
    intro i a b ha hb
    cases i with
    | zero => simp at ha hb; subst ha; subst hb; exact hy
    | succ i => simp at ha hb; exact h2 i a b ha hb

theorem seg_len {h : Hint} {ops : Array Oper} {n : Nat} {fs : List FRow} (hm : ops.toList.mapM (cRow P h ops n) = some fs) : fs.length = ops.size := by
  rw [(mapM_get hm).1]; simp

theorem seg_row {h : Hint} {ops : Array Oper} {n : Nat} {fs : List FRow} (hm : ops.toList.mapM (cRow P h ops n) = some fs) {i : Nat} {o : Oper} {f : FRow} (ho : ops[i]? = some o) (hf : fs[i]? = some f) :
    cRow P h ops n o = some f := (mapM_get hm).2 i o f (by simpa using ho) hf

/-- Behind the rows that are listed. -/
structure At (P : Program) (B : Nat) (w0 : World) (ops : Array Oper) (fs : List FRow) (e : Env) (s : St) (e' : Env) (s' : St) (q : Seqs P B w0 fs e s e' s') (S0 : Sit) (a0 : Act) (L : Array Bool) (S : Sit) (a : Act) : Prop where
  size : L.size = ops.size
  closed : Closed ops L
  inv : Inv B w0 S
  ext : Ext S0 S
  st : ∃ c, c ≤ fs.length ∧ S.st = q.T c ∧ (∀ i f, i < c → fs[i]? = some f → isLoud f = true → L.getD i false = true) ∧ (∀ i f, c ≤ i → fs[i]? = some f → L.getD i false = true → isLoud f = false)
  wr : ∀ t i f, fs[i]? = some f → f.dst = some t → L.getD i false = true → Rel S (q.V i) (a.tmps.getD t undef)
  old : ∀ t, (∀ i f, fs[i]? = some f → f.dst = some t → L.getD i false = false) → Rel S (e t) (a.tmps.getD t undef)
  asize : a.tmps.size = a0.tmps.size
  defers : a.defers = a0.defers

theorem Seqs.same {fs : List FRow} {e e' : Env} {s s' : St} (q : Seqs P B w0 fs e s e' s') {c : Nat} : ∀ {j : Nat}, c ≤ j → j ≤ fs.length →
    (∀ i f, c ≤ i → i < j → fs[i]? = some f → isLoud f = false) → q.T j = q.T c := by
  intro j
  induction j with
  | zero =>
    intro h _ _
    have : c = 0 := by omega
    rw [this]
  | succ j ih =>
    intro h hj hq
    rcases Nat.lt_or_ge j c with hlt | hge
    · have : c = j + 1 := by omega
      rw [this]
    · have hf : fs[j]? = some fs[j] := List.getElem?_eq_getElem (by omega)
      rw [(q.sem j _ hf).quiet (hq j _ hge (by omega) hf)]
      exact ih hge (by omega) (fun i f h1 h2 => hq i f h1 (by omega))

theorem getD_put (a : Act) (d : Option Nat) (c : Value) (t : Nat) (h : d ≠ some t) : (a.put d c).tmps.getD t undef = a.tmps.getD t undef := by
  rw [Array.getD_eq_getD_getElem?, put_get _ _ _ _ h, ← Array.getD_eq_getD_getElem?]

theorem getD_put_self (a : Act) (t : Nat) (c : Value) (h : t < a.tmps.size) : (a.put (some t) c).tmps.getD t undef = c := by
  simp only [Act.put]
  rw [Array.getD_eq_getD_getElem?, Array.getElem?_setIfInBounds, if_pos rfl, if_pos h]
  rfl

theorem At.step {h : Hint} {ops : Array Oper} {n : Nat} {fs : List FRow} {e e' : Env} {s s' : St} {q : Seqs P B w0 fs e s e' s'} (hm : ops.toList.mapM (cRow P h ops n) = some fs) (hd : drawOk ops fs = true)
    {S0 : Sit} {a0 : Act} (hn : n ≤ a0.tmps.size) {L : Array Bool} {a : Act} (hA : At P B w0 ops fs e s e' s' q S0 a0 L S a) {j : Nat} (hj : j ∈ Region.ready .any ops L)
    {Q : Exit → Act → World → Prop} {K : Act → World → Prop} (k : ∀ S' a', At P B w0 ops fs e s e' s' q S0 a0 (L.setIfInBounds j true) S' a' → K a' S'.w) : wpOp P ops Q j K a S.w := by
  obtain ⟨hlt, hun, hall⟩ := (ready_iff hA.size).1 hj
  have hseg := seg_len hm
  have hjf : j < fs.length := by rw [hseg]; exact hlt
  have hf : fs[j]? = some fs[j] := List.getElem?_eq_getElem hjf
  have ho : ops[j]? = some ops[j] := Array.getElem?_eq_getElem hlt
  have hc : cRow P h ops n ops[j] = some fs[j] := seg_row hm ho hf
  generalize hfj : fs[j] = f at *
  generalize ops[j] = o at *
  obtain ⟨hd1, hd2⟩ := drawOk_spec hd hf
  -- what the row looks at
  have hu : ∀ t, t ∈ f.uses → Rel S (q.E j t) (a.tmps.getD t undef) := by
    intro t ht
    rcases q.env t j (by omega) with hjunk | ⟨i, g, hi, hg, hgd, hv⟩ | ⟨hno, hv⟩
    · rw [hjunk]; exact .junk _
    · rw [hv]
      rcases ((hd2 i g hg).1 t hgd).2 ht with hq | hq
      · exact hA.wr t i g hg hgd (hall i hq.2)
      · omega
    · rw [hv]
      refine hA.old t ?_
      intro i g hg hgd
      rcases ((hd2 i g hg).1 t hgd).2 ht with hq | ⟨_, rfl | hq⟩
      · exact absurd hgd (hno i g hq.1 hg)
      · exact hun
      · cases hl : L.getD i false with
        | false => rfl
        | true =>
          have := hA.closed i hl j hq
          rw [hun] at this
          cases this
  obtain ⟨c, hcl, hst, hlo, hhi⟩ := hA.st
  -- the state that the row meets
  have hsem : ∃ s1, RowSem P B w0 f (q.E j) S.st (q.V j) s1 ∧ ∃ c', c' ≤ fs.length ∧ s1 = q.T c' ∧ (∀ i g, i < c' → fs[i]? = some g → isLoud g = true → (L.setIfInBounds j true).getD i false = true) ∧
      (∀ i g, c' ≤ i → fs[i]? = some g → (L.setIfInBounds j true).getD i false = true → isLoud g = false) := by
    by_cases hp : isPure f = true
    · refine ⟨S.st, (q.sem j f hf).pure hp S.st, c, hcl, hst, ?_, ?_⟩
      · intro i g h1 h2 h3
        rw [set_getD (by rw [hA.size]; exact hlt)]
        split
        · rfl
        · exact hlo i g h1 h2 h3
      · intro i g h1 h2 h3
        rw [set_getD (by rw [hA.size]; exact hlt)] at h3
        split at h3
        · rename_i hij
          subst hij
          rw [hf] at h2
          cases h2
          revert hp
          simp only [isPure, isLoud]
          cases cls f.op <;> simp
        · exact hhi i g h1 h2 h3
    · have hp' : isPure f = false := by simpa using hp
      have hlow : ∀ i g, i < j → fs[i]? = some g → isLoud g = true → L.getD i false = true := by
        intro i g hi hg hl
        exact far_ready hA.closed hall ((hd2 i g hg).2 hi (.inl ⟨hl, hp'⟩))
      have hhigh : ∀ i g, j < i → fs[i]? = some g → L.getD i false = true → isLoud g = false := by
        intro i g hi hg hl
        cases hlg : isLoud g with
        | false => rfl
        | true =>
          have := ((drawOk_spec hd hg).2 j f hf).2 hi (.inr ⟨hlg, hp'⟩)
          have := hA.closed.far i i j hl this
          rw [hun] at this
          cases this
      have hT : S.st = q.T j := by
        rw [hst]
        rcases Nat.le_total c j with hcj | hjc
        · refine (q.same hcj (by omega) ?_).symm
          intro i g h1 h2 h3
          cases hl : isLoud g with
          | false => rfl
          | true => rw [hhi i g h1 h3 (hlow i g h2 h3 hl)] at hl; cases hl
        · refine q.same hjc hcl ?_
          intro i g h1 h2 h3
          cases hl : isLoud g with
          | false => rfl
          | true =>
            have hli := hlo i g h2 h3 hl
            rcases Nat.lt_or_ge j i with q1 | q1
            · rw [hhigh i g q1 h3 hli] at hl; cases hl
            · have : i = j := by omega
              subst this
              rw [hun] at hli
              cases hli
      refine ⟨q.T (j + 1), by rw [hT]; exact q.sem j f hf, j + 1, by omega, rfl, ?_, ?_⟩
      · intro i g h1 h2 h3
        rw [set_getD (by rw [hA.size]; exact hlt)]
        split
        · rfl
        · rename_i hij
          exact hlow i g (by omega) h2 h3
      · intro i g h1 h2 h3
        rw [set_getD (by rw [hA.size]; exact hlt), if_neg (by omega)] at h3
        exact hhigh i g (by omega) h2 h3
  obtain ⟨s1, hsem, hc'⟩ := hsem
  refine sem_step ho hc hA.inv hu hsem ?_
  intro S' v hst' hI' hX hrel
  refine k S' _ ⟨by simpa using hA.size, ?_, hI', hA.ext.trans hX, by rw [hst']; exact hc', ?_, ?_, by rw [put_size]; exact hA.asize, by rw [put_defers]; exact hA.defers⟩
  · intro i hi m hmi
    rw [set_getD (by rw [hA.size]; exact hlt)] at hi ⊢
    split
    · rfl
    · split at hi
      · rename_i hji
        subst hji
        exact hall m hmi
      · exact hA.closed i hi m hmi
  · intro t i g hg hgd hl
    rw [set_getD (by rw [hA.size]; exact hlt)] at hl
    by_cases hji : j = i
    · subst hji
      rw [hf] at hg
      cases hg
      rw [hgd, getD_put_self]
      · exact hrel
      · have hlt' : t < n := (cRow_ok hc).2.1 t (by rw [← (cRow_ok hc).1]; exact hgd)
        rw [hA.asize]
        exact Nat.lt_of_lt_of_le hlt' hn
    · rw [if_neg hji] at hl
      have hne : f.dst ≠ some t := ((hd2 i g hg).1 t hgd).1 hji
      rw [getD_put _ _ _ _ hne]
      exact (hA.wr t i g hg hgd hl).mono hX
  · intro t hno
    have hne : f.dst ≠ some t := by
      intro hfd
      have := hno j f hf hfd
      rw [set_getD (by rw [hA.size]; exact hlt), if_pos rfl] at this
      cases this
    rw [getD_put _ _ _ _ hne]
    refine (hA.old t ?_).mono hX
    intro i g hg hgd
    have := hno i g hg hgd
    rw [set_getD (by rw [hA.size]; exact hlt)] at this
    split at this
    · cases this
    · exact this

/-- All rows are listed where none may come up. -/
theorem all_listed {ops : Array Oper} {fs : List FRow} (hlen : fs.length = ops.size) (hd : drawOk ops fs = true) {L : Array Bool} (hL : L.size = ops.size) (hr : Region.ready .any ops L = []) : ∀ i, i < ops.size → L.getD i false = true := by
  intro i
  induction i using Nat.strongRecOn with
  | ind i ih =>
    intro hi
    cases hq : L.getD i false with
    | true => rfl
    | false =>
      have : i ∈ Region.ready .any ops L := by
        rw [ready_iff hL]
        refine ⟨hi, hq, fun j hj => ?_⟩
        have hlt := (drawOk_spec hd (List.getElem?_eq_getElem (by omega : i < fs.length))).1 j hj
        exact ih j hlt (by omega)
      rw [hr] at this
      cases this

theorem At.done {h : Hint} {ops : Array Oper} {n : Nat} {fs : List FRow} {e e' : Env} {s s' : St} {q : Seqs P B w0 fs e s e' s'} (hm : ops.toList.mapM (cRow P h ops n) = some fs)
    {S0 : Sit} {a0 : Act} {L : Array Bool} {a : Act} (hA : At P B w0 ops fs e s e' s' q S0 a0 L S a) (hall : ∀ i, i < ops.size → L.getD i false = true) : S.st = s' ∧ EnvOk S e' a := by
  have hlen := seg_len hm
  obtain ⟨c, hcl, hst, hlo, hhi⟩ := hA.st
  refine ⟨?_, ?_⟩
  · refine hst.trans (Eq.trans ?_ q.lastT)
    refine (q.same hcl (Nat.le_refl _) ?_).symm
    intro i f h1 h2 h3
    exact hhi i f h1 h3 (hall i (by omega))
  · intro t
    have hl := q.last
    rw [← congrFun hl t]
    rcases q.env t fs.length (Nat.le_refl _) with hjunk | ⟨i, g, hi, hg, hgd, hv⟩ | ⟨hno, hv⟩
    · rw [hjunk]; exact .junk _
    · rw [hv]
      exact hA.wr t i g hg hgd (hall i (by omega))
    · rw [hv]
      refine hA.old t ?_
      intro i g hg hgd
      have hi : i < fs.length := by
        rcases Nat.lt_or_ge i fs.length with x | x
        · exact x
        · rw [List.getElem?_eq_none x] at hg; cases hg
      exact absurd hgd (hno i g hi hg)

theorem any_order {h : Hint} {ops : Array Oper} {n : Nat} {fs : List FRow} {e e' : Env} {s s' : St} {q : Seqs P B w0 fs e s e' s'} (hm : ops.toList.mapM (cRow P h ops n) = some fs) (hd : drawOk ops fs = true)
    {S0 : Sit} {a0 : Act} (hn : n ≤ a0.tmps.size) {Q : Exit → Act → World → Prop}
    (k : ∀ S' a', S'.st = s' → Inv B w0 S' → Ext S0 S' → EnvOk S' e' a' → a'.tmps.size = a0.tmps.size → a'.defers = a0.defers → Q .normal a' S'.w) :
    ∀ (fuel : Nat) (L : Array Bool) (S : Sit) (a : Act), At P B w0 ops fs e s e' s' q S0 a0 L S a → (List.range ops.size).countP (fun i => !L.getD i false) ≤ fuel → wpAny P .any ops Q fuel L a S.w := by
  have hlen := seg_len hm
  have hend : ∀ (L : Array Bool) (S : Sit) (a : Act), At P B w0 ops fs e s e' s' q S0 a0 L S a → Region.ready .any ops L = [] → Q .normal a S.w := by
    intro L S a hA hr
    obtain ⟨h1, h2⟩ := hA.done hm (all_listed hlen hd hA.size hr)
    exact k S a h1 hA.inv hA.ext h2 hA.asize hA.defers
  intro fuel
  induction fuel with
  | zero =>
    intro L S a hA hc
    have hr : Region.ready .any ops L = [] := by
      refine List.eq_nil_iff_forall_not_mem.2 fun j hj => ?_
      obtain ⟨hlt, hun, _⟩ := (ready_iff hA.size).1 hj
      have : 0 < (List.range ops.size).countP (fun i => !L.getD i false) := List.countP_pos_iff.2 ⟨j, by simpa using hlt, by rw [hun]; rfl⟩
      omega
    exact ⟨hr, hend L S a hA hr⟩
  | succ fuel ih =>
    intro L S a hA hc
    refine ⟨hend L S a hA, ?_⟩
    intro j hj
    refine hA.step hm hd hn hj ?_
    intro S' a' hA'
    refine ih _ S' a' hA' ?_
    obtain ⟨hlt, hun, _⟩ := (ready_iff hA.size).1 hj
    have := countP_lt (p := fun i => !L.getD i false) (p' := fun i => !(L.setIfInBounds j true).getD i false) (l := List.range ops.size) (x := j) (by simpa using hlt) (by rw [hun]; rfl)
      (by rw [set_getD (by rw [hA.size]; exact hlt), if_pos rfl]; rfl) (fun y hy => by
        rw [set_getD (by rw [hA.size]; exact hlt)] at hy
        split at hy
        · cases hy
        · exact hy)
    omega

/-- A region that draws its order. -/
theorem region_any {h : Hint} {id : Nat} {ops : Array Oper} {n : Nat} {fs : List FRow} {e e' : Env} {s s' : St} (hT : Trc P B w0 fs e s e' s') (hm : ops.toList.mapM (cRow P h ops n) = some fs)
    (hp : P.follows .mixedOrders = true) (hd : drawOk ops fs = true) {a : Act} (hst : S.st = s) (hI : Inv B w0 S) (hE : EnvOk S e a) (hn : n ≤ a.tmps.size) {Q : Exit → Act → World → Prop}
    (k : ∀ S' a', S'.st = s' → Inv B w0 S' → Ext S S' → EnvOk S' e' a' → a'.tmps.size = a.tmps.size → a'.defers = a.defers → Q .normal a' S'.w) : (Code.region id ops true).wp P Q a S.w := by
  obtain ⟨q⟩ := hT.seqs
  have hno : ∀ i, (Array.replicate ops.size false).getD i false = false := by
    intro i
    rw [Array.getD_eq_getD_getElem?, Array.getElem?_replicate]
    split <;> rfl
  refine wp_region_any hp ?_
  refine any_order (S0 := S) (a0 := a) (q := q) hm hd hn k ops.size _ S.drew a ⟨by simp, ?_, hI.drew, Ext.drew S, ⟨0, Nat.zero_le _, by rw [q.firstT]; exact hst, fun i f hi => by omega, ?_⟩, ?_, ?_, rfl, rfl⟩ ?_
  · intro i hi
    rw [hno i] at hi
    cases hi
  · intro i f _ _ hi
    rw [hno i] at hi
    cases hi
  · intro t i f _ _ hi
    rw [hno i] at hi
    cases hi
  · intro t _
    exact (hE t).mono (Ext.drew S)
  · refine Nat.le_trans List.countP_le_length ?_
    simp

end
end Go.Proofs.Ytaljmhlblanhaaa.Eng
