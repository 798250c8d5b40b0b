/-
  Regions that draw their order: whatever the order, the rows come to what they come to in the text's order. No condition.
-/
import Derived.Test.YtboejpobmpfifaaGreatDoorEngJ
namespace Go.Proofs.YtboejpobmpfifaaGreatDoor.Eng
open Go Go.RowKit
set_option linter.unusedSimpArgs false

section
variable {P : Program} {B : Nat} {w0 : World} {S : Sit}

/-- Rows in an order, each run of what is known. -/
inductive Trd (P : Program) (B : Nat) (w0 : World) : List FRow → Env → St → Env → St → Prop
  | nil (e e' : Env) (s : St) : Less e' e → Trd P B w0 [] e s e' s
  | cons (f : FRow) (fs : List FRow) (e e1 e' : Env) (s s1 s' : St) (v : V) : Less e1 e → RowSem P B w0 f e1 s v s1 → Trd P B w0 fs (put e f.dst v) s1 e' s' → Trd P B w0 (f :: fs) e s e' s'

theorem Trd.mono {fs : List FRow} {e e1 e' : Env} {s s' : St} (h : Trd P B w0 fs e1 s e' s') (hl : Less e1 e) : Trd P B w0 fs e s e' s' := by
  induction h generalizing e with
  | nil e1 e' s hl' => exact .nil _ _ _ (hl'.trans hl)
  | cons f fs e1 e2 e' s s1 s' v h1 h2 _ ih => exact .cons f fs e e2 e' s s1 s' v (h1.trans hl) h2 (ih (hl.put f.dst v))

theorem Trc.trd {fs : List FRow} {e e' : Env} {s s' : St} (h : Trc P B w0 fs e s e' s') : Trd P B w0 fs e s e' s' := by
  induction h with
  | nil e s => exact .nil _ _ _ (Less.refl e)
  | cons f fs e e' s s1 s' v hr _ ih => exact .cons f fs e e e' s s1 s' v (Less.refl e) hr ih
  | weak fs e e1 e' s s' hl _ ih => exact ih.mono hl

/-- What no row writes stays, or is forgotten. -/
theorem Trd.kept {fs : List FRow} {e e' : Env} {s s' : St} (h : Trd P B w0 fs e s e' s') {t : Nat} (ht : ∀ f ∈ fs, f.dst ≠ some t) : e' t = e t ∨ e' t = .junk := by
  induction h with
  | nil e e' s hl => exact hl t
  | cons f fs e e1 e' s s1 s' v _ _ _ ih =>
    have h1 := ih (fun g hg => ht g (by simp [hg]))
    rw [put_get' (by
      intro hm
      have := ht f (by simp)
      cases hd : f.dst with
      | none => rw [hd] at hm; simp at hm
      | some d => rw [hd] at hm this; simp at hm; exact this (by rw [hm]))] at h1
    exact h1

theorem put_comm {e : Env} {d d' : Option Nat} {v v' : V} (h : ∀ t, d = some t → d' ≠ some t) : put (put e d v) d' v' = put (put e d' v') d v := by
  cases d with
  | none => rfl
  | some d =>
    cases d' with
    | none => rfl
    | some d' =>
      have : d' ≠ d := fun q => h d rfl (by rw [q])
      funext t
      simp only [Eng.put, upd]
      split <;> split <;> first | rfl | (exfalso; omega)

/-- A quiet call does the same where one object more is, that nobody of those it is given names. -/
theorem SoundCall.more {g : FuncId} {args : List V} {s : St} {v : V} (h : SoundCall P B w0 g args s (v, s)) (hu : undL s.obs.length s.bufs.length args = true)
    (hs : ∀ (i : Nat) (o : AObj), s.obs[i]? = some o → o.und s.obs.length s.bufs.length = true) (t : TypeId) (cs : List V) :
    SoundCall P B w0 g args ⟨s.obs ++ [.cells t cs], s.bufs⟩ (v, ⟨s.obs ++ [.cells t cs], s.bufs⟩) := by
  intro S cargs hst hI hargs
  have ho : S.st.obs = s.obs ++ [.cells t cs] := by rw [hst]
  have hb : S.st.bufs = s.bufs := by rw [hst]
  have hlen : S.st.obs.length = s.obs.length + 1 := by rw [ho]; simp
  have hn : s.obs.length ≤ S.st.obs.length := by omega
  have hm : s.bufs.length ≤ S.st.bufs.length := by rw [hb]; exact Nat.le_refl _
  have hget : S.st.obs[s.obs.length]? = some (.cells t cs) := by rw [ho]; simp
  generalize hX : (fun (k : Nat) (q : Nat → Prop) => k = S.μ s.obs.length ∧ q = fun _ => True) = X
  have hXb : X (S.μ s.obs.length) (fun _ => True) := by rw [← hX]; exact ⟨rfl, rfl⟩
  have hXe : ∀ k q, X k q → k = S.μ s.obs.length := fun k q hk => by rw [← hX] at hk; exact hk.1
  have hown : ∀ a, (S.dropH s.obs.length s.bufs.length X).own a → S.own a := by
    rintro a (⟨i, ⟨hi, hd⟩, hq⟩ | ⟨i, hi, hq⟩ | ⟨q, hh | hh, hq⟩)
    · simp only [Sit.dropH, List.length_take] at hi hd
      rw [List.getElem?_take, if_pos (by omega)] at hd
      exact .inl ⟨i, ⟨by omega, hd⟩, hq⟩
    · exact .inr (.inl ⟨i, by simp [Sit.dropH] at hi; omega, hq⟩)
    · exact .inr (.inr ⟨q, hh, hq⟩)
    · exact .inl ⟨s.obs.length, ⟨by omega, by rw [hget]; simp⟩, hXe _ q hh⟩
  have hown' : ∀ a, S.own a → (S.dropH s.obs.length s.bufs.length X).own a := by
    rintro a (⟨i, ⟨hi, hd⟩, hq⟩ | ⟨i, hi, hq⟩ | ⟨q, hh, hq⟩)
    · by_cases e : i = s.obs.length
      · subst e
        exact .inr (.inr ⟨_, .inr (by rw [hq]; exact hXb), trivial⟩)
      · refine .inl ⟨i, ⟨by simp [Sit.dropH]; omega, ?_⟩, hq⟩
        simp only [Sit.dropH]
        rw [List.getElem?_take, if_pos (by omega)]
        exact hd
    · exact .inr (.inl ⟨i, by simp [Sit.dropH]; rw [hb] at hi ⊢; omega, hq⟩)
    · exact .inr (.inr ⟨q, .inl hh, hq⟩)
  have hstm : (S.dropH s.obs.length s.bufs.length X).st = s := by
    simp only [Sit.dropH, ho, hb, List.take_left, List.take_length]
  have hlive : ∀ i, (S.dropH s.obs.length s.bufs.length X).live i → S.live i := by
    rintro i (hl | ⟨m, q, hl, h0⟩)
    · exact .inl hl
    · refine .inr ⟨m, q, ?_, h0⟩
      simp only [Sit.dropH] at hl
      rw [List.getElem?_take] at hl
      split at hl
      · exact hl
      · cases hl
  have hgo : ∀ (i : Nat) (o : AObj), (S.dropH s.obs.length s.bufs.length X).st.obs[i]? = some o → i < s.obs.length ∧ S.st.obs[i]? = some o := by
    intro i o hi
    rw [hstm] at hi
    have hl := (List.getElem?_eq_some_iff.1 hi).1
    exact ⟨hl, by rw [ho, List.getElem?_append_left hl]; exact hi⟩
  have hlo : (S.dropH s.obs.length s.bufs.length X).st.obs.length = s.obs.length := by rw [hstm]
  have hlb : (S.dropH s.obs.length s.bufs.length X).st.bufs.length = s.bufs.length := by rw [hstm]
  have hne : ∀ k, k < s.obs.length → S.μ k ≠ S.μ s.obs.length := fun k hk e => by
    have := hI.injc s.obs.length k t cs hget (by omega) e.symm
    omega
  have hIm : Inv B w0 (S.dropH s.obs.length s.bufs.length X) := by
    constructor
    · exact hI.below
    · exact hI.base
    · intro i o hi
      obtain ⟨hil, hi'⟩ := hgo i o hi
      have := hI.obj i o hi'
      exact ⟨this.1, this.2.cutH hown hn hm (hs i o (by rw [hstm] at hi; exact hi))⟩
    · intro i j hi hj e
      rw [hlo] at hi hj
      rcases hI.inj i j (by omega) (by omega) e with g | g | g
      · exact .inl g
      · refine .inr (.inl ?_)
        rw [hstm]
        rw [ho, List.getElem?_append_left hi] at g
        exact g
      · refine .inr (.inr ?_)
        rw [hstm]
        rw [ho, List.getElem?_append_left hj] at g
        exact g
    · intro i hi
      exact hI.buf i (by rw [hlb] at hi; omega)
    · intro i hi
      exact hI.froz i (by rw [hlb] at hi; omega)
    · intro i hi hl
      exact hI.live i (by rw [hlb] at hi; omega) (hlive i hl)
    · intro i k hi hk hl
      exact hI.bufobj i k (by rw [hlb] at hi; omega) (by rw [hlo] at hk; omega) (hlive i hl)
    · intro i j hi hj hij h1 h2
      exact hI.bufbuf i j (by rw [hlb] at hi; omega) (by rw [hlb] at hj; omega) hij (hlive i h1) (hlive j h2)
    · rintro b q (hh | hh)
      · obtain ⟨h1, h2, h3, h4⟩ := hI.hid b q hh
        exact ⟨h1, h2, fun k hk => h3 k (by rw [hlo] at hk; omega), fun i hi hl => h4 i (by rw [hlb] at hi; omega) (hlive i hl)⟩
      · have hbe := hXe b q hh
        subst hbe
        exact ⟨hI.mu_ge (by omega), hI.mu_lt (by omega), fun k hk => hne k (by rw [hlo] at hk; exact hk), fun i hi hl => hI.bufobj i _ (by rw [hlb] at hi; omega) (by omega) (hlive i hl)⟩
    · intro i j t' cs' hi hj e
      obtain ⟨hil, hi'⟩ := hgo i _ hi
      exact hI.injc i j t' cs' hi' (by rw [hlo] at hj; omega) e
  have hargs' : RelL (S.dropH s.obs.length s.bufs.length X) args cargs := hargs.cutH hown hn hm hu
  -- behind the call the object is there again
  have back : ∀ (S' : Sit) (c : Value), S'.st = s → Inv B w0 S' → Ext (S.dropH s.obs.length s.bufs.length X) S' → Rel S' v c →
      ∃ S2 : Sit, S2.w = S'.w ∧ S2.st = ⟨s.obs ++ [.cells t cs], s.bufs⟩ ∧ Inv B w0 S2 ∧ Ext S S2 ∧ Rel S2 v c := by
    intro S' c hst' hI' hE hr
    generalize hbk : S.μ s.obs.length = b at hXb hXe hne
    have hhid' := hE.hid b _ (.inr hXb)
    obtain ⟨hh', hheap⟩ := hhid'
    have hmu : ∀ i, i < s.obs.length → S'.μ i = S.μ i := fun i hi => hE.mu i (by rw [hlo]; exact hi)
    let S2 : Sit := { st := ⟨s.obs ++ [.cells t cs], s.bufs⟩, μ := fun i => if i = s.obs.length then b else S'.μ i, ρ := S'.ρ, τ := S'.τ, w := S'.w, hid := fun k q => S'.hid k q ∧ k ≠ b }
    have hob' : S'.st.obs.length = s.obs.length := by rw [hst']
    have hbb' : S'.st.bufs.length = s.bufs.length := by rw [hst']
    have o1 : ∀ a, S2.own a → S'.own a := by
      rintro a (⟨i, ⟨hi, hd⟩, hq⟩ | ⟨i, hi, hq⟩ | hh)
      · by_cases e : i = s.obs.length
        · have hq' : a.block = b := by rw [hq]; show (if i = s.obs.length then b else S'.μ i) = b; rw [if_pos e]
          rw [← hq'] at hh'
          exact .inr (.inr ⟨_, hh', trivial⟩)
        · have hq' : a.block = S'.μ i := by rw [hq]; show (if i = s.obs.length then b else S'.μ i) = _; rw [if_neg e]
          have hi' : i < s.obs.length + 1 := by simpa [S2] using hi
          have hd' : (s.obs ++ [AObj.cells t cs])[i]? ≠ some .dead := hd
          rw [List.getElem?_append_left (by omega)] at hd'
          exact .inl ⟨i, ⟨by omega, by rw [hst']; exact hd'⟩, hq'⟩
      · exact .inr (.inl ⟨i, by rw [hbb']; exact hi, hq⟩)
      · obtain ⟨q, hh, hq⟩ := hh
        exact .inr (.inr ⟨q, hh.1, hq⟩)
    have o2 : ∀ a, S'.own a → S2.own a := by
      rintro a (⟨i, ⟨hi, hd⟩, hq⟩ | ⟨i, hi, hq⟩ | hh)
      · have hil : i < s.obs.length := by omega
        rw [hst'] at hd
        refine .inl ⟨i, ⟨by simp [S2]; omega, ?_⟩, by rw [hq]; show _ = (if i = s.obs.length then b else S'.μ i); rw [if_neg (by omega)]⟩
        show (s.obs ++ [AObj.cells t cs])[i]? ≠ _
        rw [List.getElem?_append_left hil]
        exact hd
      · exact .inr (.inl ⟨i, by rw [hbb'] at hi; exact hi, hq⟩)
      · by_cases e : a.block = b
        · exact .inl ⟨s.obs.length, ⟨by simp [S2], by simp [S2]⟩, by rw [e]; show _ = (if s.obs.length = s.obs.length then b else _); rw [if_pos rfl]⟩
        · obtain ⟨q, hh, hq⟩ := hh
          exact .inr (.inr ⟨q, ⟨hh, e⟩, hq⟩)
    have hE0 : Ext0 S' S2 :=
      ⟨Nat.le_refl _, fun _ _ => rfl, fun _ _ _ => rfl, fun a _ q => o1 a q, by rw [hob']; simp [S2], by rw [hbb']; exact Nat.le_refl _,
        fun i hi => by show (if i = s.obs.length then b else S'.μ i) = _; rw [if_neg (by omega)], fun i m q _ hm => ⟨m, q, by rw [hst']; exact hm, .inr (.inl ⟨rfl, rfl, rfl⟩)⟩, fun _ _ _ _ _ _ => rfl⟩
    have hES : Ext S S2 := by
      refine ⟨⟨hE.size, hE.shape, ?_, ?_, by rw [hlen]; simp [S2], by rw [hb]; exact Nat.le_refl _, ?_, ?_, fun i m q hm => hE.tau i m q (by rw [hstm, ← hb]; exact hm)⟩, ?_⟩
      · intro a ha hna
        exact hE.cell a ha (fun q => hna (hown a q))
      · intro a ha q
        exact hown a (hE.own a ha (o1 a q))
      · intro i hi
        show (if i = s.obs.length then b else S'.μ i) = _
        by_cases e : i = s.obs.length
        · rw [if_pos e, e, hbk]
        · rw [if_neg e]; exact hmu i (by omega)
      · intro i m q hi hm
        have h2 := hE.buf i m q (by rw [hlb]; rw [hb] at hi; exact hi) (by rw [hst']; exact hm)
        rw [hstm] at h2
        rw [hb]
        exact h2
      · intro k q hk
        have h2 := hE.hid k q (.inl hk)
        refine ⟨⟨h2.1, ?_⟩, h2.2⟩
        intro e
        have := (hI.hid k q hk).2.2.1 s.obs.length (by omega)
        exact this (by rw [hbk]; exact e.symm)
    have hl2 : ∀ i, S2.live i → S'.live i := by
      rintro i (hl | ⟨m, q, hl, h0⟩)
      · exact .inl hl
      · exact .inr ⟨m, q, by rw [hst']; exact hl, h0⟩
    have hmu2 : ∀ k, k < s.obs.length → S2.μ k = S'.μ k := fun k hk => by show (if k = s.obs.length then b else S'.μ k) = _; rw [if_neg (by omega)]
    have hmun : S2.μ s.obs.length = b := by show (if s.obs.length = s.obs.length then b else _) = _; rw [if_pos rfl]
    have hbne : ∀ k, k < s.obs.length → S'.μ k ≠ b := fun k hk => (hI'.hid b _ hh').2.2.1 k (by omega)
    have hlen2 : S2.st.obs.length = s.obs.length + 1 := by simp [S2]
    refine ⟨S2, rfl, rfl, ?_, hES, hr.mono0 hE0⟩
    constructor
    · exact hI'.below
    · exact hI'.base
    · intro i o hi
      by_cases e : i = s.obs.length
      · subst e
        have : o = .cells t cs := by
          have h2 : (s.obs ++ [AObj.cells t cs])[s.obs.length]? = some o := hi
          simp at h2
          exact h2.symm
        subst this
        rw [hmun]
        have h3 := hI.obj s.obs.length _ hget
        rw [hbk] at h3
        exact ⟨h3.1, h3.2.mono hES hheap⟩
      · have hil : i < s.obs.length := by
          have h2 := (List.getElem?_eq_some_iff.1 hi).1
          omega
        have h2 : S'.st.obs[i]? = some o := by
          rw [hst']
          have h4 : (s.obs ++ [AObj.cells t cs])[i]? = some o := hi
          rw [List.getElem?_append_left hil] at h4
          exact h4
        have h3 := hI'.obj i o h2
        rw [hmu2 i hil]
        exact ⟨h3.1, h3.2.mono0 hE0 rfl⟩
    · intro i j hi hj e
      rw [hlen2] at hi hj
      have dd : ∀ k : Nat, k < s.obs.length → S'.st.obs[k]? = some .dead → S2.st.obs[k]? = some .dead := by
        intro k hk hq
        rw [hst'] at hq
        show (s.obs ++ [AObj.cells t cs])[k]? = _
        rw [List.getElem?_append_left hk]; exact hq
      by_cases ei : i = s.obs.length <;> by_cases ej : j = s.obs.length
      · exact .inl (by omega)
      · rw [ei, hmun, hmu2 j (by omega)] at e
        exact absurd e.symm (hbne j (by omega))
      · rw [ej, hmun, hmu2 i (by omega)] at e
        exact absurd e (hbne i (by omega))
      · rw [hmu2 i (by omega), hmu2 j (by omega)] at e
        rcases hI'.inj i j (by omega) (by omega) e with g | g | g
        · exact .inl g
        · exact .inr (.inl (dd i (by omega) g))
        · exact .inr (.inr (dd j (by omega) g))
    · intro i hi
      exact hI'.buf i (by rw [hbb']; exact hi)
    · intro i hi
      exact hI'.froz i (by rw [hbb']; exact hi)
    · intro i hi hl
      exact hI'.live i (by rw [hbb']; exact hi) (hl2 i hl)
    · intro i k hi hk hl
      rw [hlen2] at hk
      by_cases e : k = s.obs.length
      · rw [e, hmun]
        exact (hI'.hid b _ hh').2.2.2 i (by rw [hbb']; exact hi) (hl2 i hl)
      · rw [hmu2 k (by omega)]
        exact hI'.bufobj i k (by rw [hbb']; exact hi) (by omega) (hl2 i hl)
    · intro i j hi hj hij h1 h2
      exact hI'.bufbuf i j (by rw [hbb']; exact hi) (by rw [hbb']; exact hj) hij (hl2 i h1) (hl2 j h2)
    · rintro k q ⟨hk, hkb⟩
      obtain ⟨h1, h2, h3, h4⟩ := hI'.hid k q hk
      refine ⟨h1, h2, ?_, fun i hi hl => h4 i (by rw [hbb']; exact hi) (hl2 i hl)⟩
      intro i hi
      rw [hlen2] at hi
      by_cases e : i = s.obs.length
      · rw [e, hmun]; exact fun q => hkb q.symm
      · rw [hmu2 i (by omega)]; exact h3 i (by omega)
    · intro i j t' cs' hi hj e
      rw [hlen2] at hj
      by_cases ei : i = s.obs.length <;> by_cases ej : j = s.obs.length
      · omega
      · rw [ei, hmun, hmu2 j (by omega)] at e
        exact absurd e.symm (hbne j (by omega))
      · have hil : i < s.obs.length := by
          have h2 := (List.getElem?_eq_some_iff.1 hi).1
          omega
        rw [ej, hmun, hmu2 i hil] at e
        exact absurd e (hbne i hil)
      · have hil : i < s.obs.length := by
          have h2 := (List.getElem?_eq_some_iff.1 hi).1
          omega
        rw [hmu2 i hil, hmu2 j (by omega)] at e
        refine hI'.injc i j t' cs' ?_ (by omega) e
        rw [hst']
        have h4 : (s.obs ++ [AObj.cells t cs])[i]? = some (.cells t' cs') := hi
        rw [List.getElem?_append_left hil] at h4
        exact h4
  have hcall := h (S.dropH s.obs.length s.bufs.length X) cargs hstm hIm hargs'
  rcases hcall with ⟨hr, hc⟩ | ⟨x, w', hr, c, S', he, hw', hst', hI', hE, hrel⟩
  · left
    refine ⟨hr, hc.mono ?_⟩
    rintro e w' ⟨c, S', rfl, rfl, hst', hI', hE, hrel⟩
    obtain ⟨S2, q1, q2, q3, q4, q5⟩ := back S' c hst' hI' hE hrel
    exact ⟨c, S2, rfl, q1, q2, q3, q4, q5⟩
  · right
    obtain ⟨S2, q1, q2, q3, q4, q5⟩ := back S' c hst' hI' hE hrel
    exact ⟨x, w', hr, c, S2, he, q1.trans hw', q2, q3, q4, q5⟩

/-- What is known of the slots that a row looks at. -/
def only (ts : List Nat) (e : Env) : Env := fun t => if t ∈ ts then e t else .junk

theorem sat_of {f : FRow} {e : Env} {a : Act} (hs : satV f.guard e) (hu : ∀ t, t ∈ f.uses → Rel S (e t) (a.tmps.getD t undef)) : Sat f.guard a := by
  unfold FRow.uses at hu
  cases hg : f.guard with
  | none => trivial
  | some q =>
    obtain ⟨t, want⟩ := q
    rw [hg] at hs hu
    simp only [satV] at hs
    have := hu t (by simp [usesG])
    rw [hs] at this
    have := this.bool_inv
    rw [Array.getD_eq_getD_getElem?] at this
    simp only [Sat]
    cases hq : a.tmps[t]? with
    | none => rw [hq] at this; simp [undef] at this
    | some c => rw [hq] at this; simp at this; rw [this]

theorem uns_of {f : FRow} {e : Env} {a : Act} (hs : unsV f.guard e) (hu : ∀ t, t ∈ f.uses → Rel S (e t) (a.tmps.getD t undef)) : Uns f.guard a := by
  unfold FRow.uses at hu
  cases hg : f.guard with
  | none => rw [hg] at hs; exact hs.elim
  | some q =>
    obtain ⟨t, want⟩ := q
    rw [hg] at hs hu
    simp only [unsV] at hs
    have hr := hu t (by simp [usesG])
    simp only [Uns]
    intro hc
    rw [Array.getD_eq_getD_getElem?, hc] at hr
    simp only [Option.getD_some] at hr
    rcases hs with hs | hs
    · rw [hs] at hr
      have := hr.bool_inv
      cases want <;> simp at this
    · rw [hs] at hr
      obtain ⟨cc, hq, _⟩ := hr.tup_inv
      cases hq

/-- A call, run, in whatever order. -/
theorem sem_call {h : Hint} {ops : Array Oper} {n i : Nat} {Q : Exit → Act → World → Prop} {K : Act → World → Prop} {o : Oper} {f : FRow} (ho : ops[i]? = some o) (hc : cRow P h ops n o = some f)
    {e : Env} {a : Act} (hI : Inv B w0 S) (hu : ∀ t, t ∈ f.uses → Rel S (e t) (a.tmps.getD t undef)) {v : V} {s' : St} {pl own qu : Bool} {fx : X} {as : List X} {g : FuncId} {first cap : List V}
    (hs : satV f.guard e) (hop : f.op = .call own qu fx as) (hf : fx.ev e = .fn (.func g) first cap)
    (hcall : SoundCall P B w0 g (first ++ as.map (fun x => if pl = true then x.ev e else (x.ev e).plain) ++ cap) S.st (v, s'))
    (k : ∀ S' c, S'.st = s' → Inv B w0 S' → Ext S S' → Rel S' v c → K (a.put f.dst c) S'.w) : wpOp P ops Q i K a S.w := by
  obtain ⟨h1, h2, h3⟩ := cRow_op hc (by rw [hop]; rfl)
  unfold wpOp
  simp only [ho]
  have hE : EnvOk S (only (usesO f.op) e) a := by
    intro t
    simp only [only]
    split
    · rename_i ht
      exact hu t (by simp [FRow.uses, ht])
    · exact .junk _
  have hcg : ∀ t, t ∈ usesO f.op → only (usesO f.op) e t = e t := fun t ht => by simp [only, ht]
  rw [if_pos (wanted_sat hc (sat_of hs hu))]
  rw [hop] at h3
  obtain ⟨fo, args, argTypes, hoo, hfx, has⟩ := cOp_call h3
  have hfv := cX_ok hE hfx
  rw [hop] at hcg hE
  simp only [usesO, List.mem_append] at hcg
  rw [hop] at hfv
  simp only [usesO] at hfv
  rw [ev_congr (x := fx) (fun t ht => hcg t (.inl ht)), hf] at hfv
  obtain ⟨cx, cy, hfc, hcx, hcy⟩ := hfv.fn_inv
  have hargs := arg_rel hE pl args.toList as has
  have hcong : (as.map fun x => if pl = true then x.ev (only (usesO (.call own qu fx as)) e) else (x.ev (only (usesO (.call own qu fx as)) e)).plain) =
      as.map fun x => if pl = true then x.ev e else (x.ev e).plain := by
    refine List.map_congr_left fun x hx => ?_
    have hq : x.ev (only (usesO (.call own qu fx as)) e) = x.ev e := ev_congr (x := x) (fun t ht => hcg t (.inr (List.mem_flatMap.2 ⟨x, hx, ht⟩)))
    rw [hq]
  rw [hcong] at hargs
  have hall : RelL S (first ++ as.map (fun x => if pl = true then x.ev e else (x.ev e).plain) ++ cap) (cx ++ args.toList.map a.eval ++ cy) := (hcx.append hargs).append hcy
  have hok := hcall S _ rfl hI hall
  have key : ∀ (c : Value) (S' : Sit), S'.st = s' → Inv B w0 S' → Ext S S' → Rel S' v c → K (a.put o.dst c) S'.w := by
    intro c S' hst hI' hX hrel
    rw [← h1]
    exact k S' c hst hI' hX hrel
  have hexec : ∀ w, (execOp a.eval o).run P w = (callFunc g (cx ++ args.toList.map a.eval ++ cy).toArray).run P w := by
    intro w
    have hl : (cx.toArray ++ args.map a.eval) ++ cy.toArray = (cx ++ args.toList.map a.eval ++ cy).toArray := by
      apply Array.ext'
      simp
    simp only [execOp, hoo, resolve, hfc, Deferred.ofValue, Sem.run_bind, Sem.run_pure, Result.andThen_ok, invoke, hl]
  left
  unfold Oper.wp
  rw [hexec]
  rcases hok with ⟨hr, hcalls⟩ | ⟨v, w', hr, hR⟩
  · rw [hr, Oper.upon_enter]
    refine hcalls.mono ?_
    rintro e w' ⟨c, S', rfl, rfl, hst, hI', hX, hrel⟩
    · exact key c S' hst hI' hX hrel
  · rw [hr, Oper.upon_value]
    obtain ⟨c, S', hc', rfl, hst, hI', hX, hrel⟩ := hR
    · cases hc'
      exact key _ S' hst hI' hX hrel

theorem put_same (a : Act) (t : Nat) : a.put (some t) (a.tmps.getD t undef) = a := by
  have : a.tmps.setIfInBounds t (a.tmps.getD t undef) = a.tmps := by
    apply Array.ext
    · simp
    · intro i h1 h2
      rw [Array.getElem_setIfInBounds]
      · split
        · rename_i e
          subst e
          simp [Array.getD_eq_getD_getElem?, h2]
        · rfl
  unfold Act.put
  simp only
  rw [this]

/-- One row, run, in whatever order. -/
theorem sem_step {h : Hint} {ops : Array Oper} {n i : Nat} {Q : Exit → Act → World → Prop} {K : Act → World → Prop} {o : Oper} {f : FRow} (ho : ops[i]? = some o) (hc : cRow P h ops n o = some f)
    {e : Env} {a : Act} (hI : Inv B w0 S) (hu : ∀ t, t ∈ f.uses → Rel S (e t) (a.tmps.getD t undef)) {v : V} {s' : St} (hr : RowSem P B w0 f e S.st v s')
    (k : ∀ S' c, S'.st = s' → Inv B w0 S' → Ext S S' → Rel S' v c → K (a.put f.dst c) S'.w) : wpOp P ops Q i K a S.w := by
  have hE : EnvOk S (only (usesO f.op) e) a := by
    intro t
    simp only [only]
    split
    · rename_i ht
      exact hu t (by simp [FRow.uses, ht])
    · exact .junk _
  have hcg : ∀ t, t ∈ usesO f.op → only (usesO f.op) e t = e t := fun t ht => by simp [only, ht]
  cases hr with
  | skip hs =>
    unfold wpOp
    simp only [ho]
    have h1 : f.dst = o.dst := by
      rcases (cRow_ok hc).2.2 with ⟨_, h1, _⟩ | ⟨sz, t, x, _, _, _, hg, _⟩
      · exact h1
      · unfold unsV at hs; rw [hg] at hs; exact hs.elim
    rw [if_neg (by rw [wanted_uns hc (uns_of hs hu)]; simp), ← h1]
    exact k S undef rfl hI (Ext.refl S) rel_undef
  | run _ _ hs he =>
    unfold wpOp
    simp only [ho]
    rw [if_pos (wanted_sat hc (sat_of hs hu))]
    rw [← evOp_congr hcg] at he
    cases hz : isStz f.op with
    | false =>
      obtain ⟨h1, h2, h3⟩ := cRow_op hc hz
      obtain ⟨S', nx, hr, hst, hI', hX, hv⟩ := evOp_ok h3 hz hI hE he
      left
      unfold Oper.wp
      rw [hr]
      rcases hv with ⟨c, rfl, hc'⟩ | ⟨rfl, rfl⟩
      · show K (a.put o.dst c) S'.w
        rw [← h1]; exact k S' c hst hI' hX hc'
      · show K (a.put o.dst undef) S'.w
        rw [← h1]; exact k S' undef hst hI' hX rel_undef
    | true =>
      obtain ⟨h3, _, ⟨hq, _⟩ | ⟨sz, t, x, hf, hd, hod, _, htn⟩⟩ := cRow_ok hc
      · rw [hz] at hq; cases hq
      · rw [hf] at h3 he hE
        obtain ⟨ty, p', x', hop, hsz, hp, hx⟩ := cOp_stz h3
        obtain ⟨S', hr, hst, hI', hX, hrel⟩ := stz_ok hI hsz (cX_ok hE hp) (cX_ok hE hx) he
        left
        rw [cX_tmp hp] at hrel
        have hrun : (execOp a.eval o).run P S.w = .ok .skip S'.w := by
          simp only [execOp, hop]; exact run_u hr
        have hput : a.put f.dst (a.tmps.getD t undef) = a := by
          rw [hd]
          exact put_same a t
        have hgo : K (a.put f.dst (a.tmps.getD t undef)) S'.w := k S' _ hst hI' hX hrel
        rw [hput] at hgo
        have hap : a.put o.dst undef = a := by rw [hod]; rfl
        have hgo' : K (a.put o.dst undef) S'.w := by rw [hap]; exact hgo
        unfold Oper.wp
        rw [hrun]
        exact hgo'
  | call own qu fx as g first cap _ _ _ hs hop hf hcall _ => exact sem_call (pl := own) ho hc hI hu hs hop hf hcall k
  | fr fx as g first cap _ _ hs hop hf hcall => exact sem_call (pl := false) ho hc hI hu hs hop hf (by simpa using hcall.sound) k

/-- What reads leaves the store. -/
theorem evOp_reads {op : AOp} (hp : isLoud ⟨none, none, op⟩ = false) {e : Env} {s s1 : St} {v : V} (h : evOp op e s = some (v, s1)) : s1 = s := by
  cases hc : cls op with
  | pure => exact (evOp_pure hc h).1
  | turns => simp [isLoud, hc] at hp
  | reads =>
    cases op <;> simp only [cls] at hc <;> try (cases hc; done)
    case load n x =>
      simp only [evOp, evLoad] at h
      (repeat' split at h) <;> first | (obtain ⟨u, _, _, rfl⟩ := map_pair h; rfl) | cases h
    case len k x =>
      simp only [evOp, evLen] at h
      (repeat' split at h) <;> first | (simp only [Option.some.injEq, Prod.mk.injEq] at h; exact h.2.symm) | cases h
    case look k z o m x =>
      simp only [evOp, evLookup] at h
      (repeat' split at h) <;> first | (obtain ⟨u, _, _, rfl⟩ := map_pair h; rfl) | cases h
    case call o q f x => simp [evOp] at h
    case slc n x a b =>
      simp only [evOp] at h
      obtain ⟨u, _, _, rfl⟩ := map_pair h
      rfl
    case slc3 n x a b c =>
      simp only [evOp] at h
      obtain ⟨u, _, _, rfl⟩ := map_pair h
      rfl
    case sdata x =>
      simp only [evOp] at h
      (repeat' split at h) <;> first | (simp only [Option.some.injEq, Prod.mk.injEq] at h; exact h.2.symm) | cases h
    case ustr e x y =>
      simp only [evOp] at h
      (repeat' split at h) <;> first | (obtain ⟨u, _, _, rfl⟩ := map_pair h; rfl) | (simp only [Option.some.injEq, Prod.mk.injEq] at h; exact h.2.symm) | cases h
    case pu x =>
      simp only [evOp] at h
      (repeat' split at h) <;> first | (simp only [Option.some.injEq, Prod.mk.injEq] at h; exact h.2.symm) | cases h
    case up u n x =>
      simp only [evOp] at h
      (repeat' split at h) <;> first | (simp only [Option.some.injEq, Prod.mk.injEq] at h; exact h.2.symm) | cases h

theorem RowSem.quiet {f : FRow} {e : Env} {s s1 : St} {v : V} (h : RowSem P B w0 f e s v s1) (hl : isLoud f = false) : s1 = s := by
  cases h with
  | run _ _ _ he => exact evOp_reads (op := f.op) hl he
  | skip _ => rfl
  | call own qu fx as g first cap _ _ hoq _ hop _ _ hq =>
    cases qu with
    | true => exact (hq rfl).1
    | false => cases own <;> simp [isLoud, hop, cls] at hl
  | fr fx as g first cap _ _ _ hop _ _ => simp [isLoud, hop, cls] at hl

theorem RowSem.pure {f : FRow} {e : Env} {s s1 : St} {v : V} (h : RowSem P B w0 f e s v s1) (hl : isPure f = true) (s2 : St) : RowSem P B w0 f e s2 v s2 := by
  cases h with
  | run _ _ hs he =>
    have hc : cls f.op = .pure := by
      unfold isPure at hl
      split at hl
      · assumption
      · cases hl
    exact .run _ _ hs ((evOp_pure hc he).2 s2)
  | skip hs => exact .skip hs
  | call own qu fx as g first cap _ _ _ _ hop _ _ hq =>
    cases own <;> cases qu <;> simp [isPure, hop, cls] at hl
  | fr fx as g first cap _ _ _ hop _ _ => simp [isPure, hop, cls] at hl

/-- What 'drawOk' says. -/
theorem drawOk_spec {ops : Array Oper} {fs : List FRow} {aps : List (Nat × Nat)} (h : drawOk ops fs aps = true) {i : Nat} {f : FRow} (hf : fs[i]? = some f) :
    (∀ j, j ∈ ahead ops i → j < i) ∧ ∀ j g, fs[j]? = some g →
      (∀ t, g.dst = some t → (i ≠ j → f.dst ≠ some t ∨ (j < i ∧ j ∈ ahead2 ops i i) ∨ (i < j ∧ i ∈ ahead2 ops j j)) ∧ (t ∈ f.uses → (j < i ∧ j ∈ ahead ops i) ∨ (i ≤ j ∧ (i = j ∨ i ∈ ahead ops j)))) ∧
      (j < i → j ∈ ahead2 ops i i ∨ pairOk fs aps (isNew f.op && calmOf ops fs i) g j f i = true ∨ (inM ops fs i = true ∧ inM ops fs j = true)) := by
  unfold drawOk at h
  have h := (Bool.and_eq_true_iff.1 h).2
  rw [List.all_eq_true] at h
  have hm : ∀ {i f}, fs[i]? = some f → (f, i) ∈ fs.zipIdx := fun {i f} hf => by
    rw [List.mem_zipIdx_iff_getElem?]; exact hf
  have h1 := h _ (hm hf)
  simp only [Bool.and_eq_true, List.all_eq_true, decide_eq_true_eq] at h1
  refine ⟨h1.1, ?_⟩
  intro j g hg
  have h2 := h1.2 _ (hm hg)
  simp only [Bool.and_eq_true, Bool.or_eq_true, Bool.not_eq_true', beq_iff_eq, bne_iff_ne, ne_eq, decide_eq_false_iff_not] at h2
  refine ⟨?_, ?_⟩
  · intro t ht
    have h3 := h2.1
    rw [ht] at h3
    simp only [Bool.and_eq_true, Bool.or_eq_true, Bool.not_eq_true', beq_iff_eq, bne_iff_ne, ne_eq, decide_eq_true_eq, List.contains_iff_mem] at h3
    refine ⟨fun hne => ?_, fun hu => ?_⟩
    · rcases h3.1 with ((h4 | h4) | h4) | h4
      · exact absurd h4 hne
      · exact .inl h4
      · exact .inr (.inl h4)
      · exact .inr (.inr h4)
    rcases h3.2 with (h4 | h4) | h4
    · have := List.contains_iff_mem.2 hu
      rw [this] at h4
      cases h4
    · exact .inl h4
    · exact .inr h4
  · intro hlt
    rcases h2.2 with ((h3 | h3) | h3) | h3
    · exact absurd hlt h3
    · exact .inr (.inl h3)
    · exact .inl (by simpa using h3)
    · exact .inr (.inr h3)

theorem calm_spec {ops : Array Oper} {fs : List FRow} {i : Nat} (h : calmOf ops fs i = true) {j : Nat} {g : FRow} (hg : fs[j]? = some g) (hj : j < i) : isLoud g = false ∨ j ∈ ahead2 ops i i ∨ (inM ops fs i = true ∧ inM ops fs j = true) := by
  unfold calmOf at h
  rw [List.all_eq_true] at h
  have := h (g, j) (by rw [List.mem_zipIdx_iff_getElem?]; exact hg)
  simp only [Bool.or_eq_true, Bool.and_eq_true, decide_eq_true_eq, Bool.not_eq_true'] at this
  rcases this with ((h | h) | h) | h
  · omega
  · exact .inl h
  · exact .inr (.inl (by simpa using h))
  · exact .inr (.inr h)

theorem stable_spec {fs : List FRow} {i x : Nat} (h : stable fs i x = true) {w : Nat} {g : FRow} (hg : fs[w]? = some g) (hw : i ≤ w) : g.dst ≠ some x := by
  unfold stable at h
  rw [List.all_eq_true] at h
  have := h (g, w) (by rw [List.mem_zipIdx_iff_getElem?]; exact hg)
  simp only [Bool.or_eq_true, decide_eq_true_eq, bne_iff_ne, ne_eq] at this
  rcases this with h | h
  · omega
  · exact h

/-! ### Two rows change places -/
/-- What an operation on one object does. -/
def wr (w : Option (Nat × AObj)) (s : St) : St :=
  match w with
  | none => s
  | some (i, o) => ⟨s.obs.set i o, s.bufs⟩

def memV (op : AOp) (e : Env) : V :=
  match op with
  | .load _ x => x.ev e
  | .store _ x _ => x.ev e
  | _ => .junk

theorem mem_loc {op : AOp} {e : Env} {s s1 : St} {v : V} (hm : isMem op = true) (h : evOp op e s = some (v, s1)) :
    ∃ w : Option (Nat × AObj), (∀ i o, w = some (i, o) → ∃ off, memV op e = .ptr i off) ∧ s1 = wr w s ∧ ((∃ i off, memV op e = .ptr i off ∧ i < s.obs.length) ∨ ∃ cs, memV op e = .ept cs) ∧
      ∀ s2 : St, (∀ i off, memV op e = .ptr i off → s2.obs[i]? = s.obs[i]?) → evOp op e s2 = some (v, wr w s2) := by
  have lt : ∀ {i : Nat} {o : AObj}, s.obs[i]? = some o → i < s.obs.length := fun h => (List.getElem?_eq_some_iff.1 h).1
  cases op <;> simp only [isMem] at hm <;> try (cases hm; done)
  case load n x =>
    simp only [evOp, evLoad, memV] at h ⊢
    split at h
    · rename_i id off hx
      rw [hx]
      split at h
      · rename_i t cs ho
        obtain ⟨u, hu, rfl, rfl⟩ := map_pair h
        exact ⟨none, by simp, rfl, .inl ⟨_, _, rfl, lt ho⟩, fun s2 h2 => by rw [h2 _ _ rfl, ho]; simp only; rw [hu]; rfl⟩
      · rename_i t cs ho
        obtain ⟨u, hu, rfl, rfl⟩ := map_pair h
        exact ⟨none, by simp, rfl, .inl ⟨_, _, rfl, lt ho⟩, fun s2 h2 => by rw [h2 _ _ rfl, ho]; simp only; rw [hu]; rfl⟩
      · cases h
    · rename_i cs hx
      rw [hx]
      obtain ⟨u, hu, rfl, rfl⟩ := map_pair h
      exact ⟨none, by simp, rfl, .inr ⟨_, rfl⟩, fun s2 h2 => by rw [hu]; rfl⟩
    · cases h
  case store n x y =>
    simp only [evOp, evStore, memV] at h ⊢
    split at h
    · rename_i id off hx
      rw [hx]
      split at h
      · rename_i t cs ho
        split at h
        · rename_i hc
          simp only [Option.some.injEq, Prod.mk.injEq] at h
          obtain ⟨rfl, rfl⟩ := h
          exact ⟨some (id, .cells t (putL cs off (y.ev e).cells)), by rintro i o ⟨⟩; exact ⟨_, rfl⟩, rfl, .inl ⟨_, _, rfl, lt ho⟩, fun s2 h2 => by rw [h2 _ _ rfl, ho]; simp only; rw [if_pos hc]; rfl⟩
        · cases h
      · rename_i t cs ho
        split at h
        · rename_i hc
          simp only [Option.some.injEq, Prod.mk.injEq] at h
          obtain ⟨rfl, rfl⟩ := h
          exact ⟨some (id, .arr t (putL cs off (y.ev e).cells)), by rintro i o ⟨⟩; exact ⟨_, rfl⟩, rfl, .inl ⟨_, _, rfl, lt ho⟩, fun s2 h2 => by rw [h2 _ _ rfl, ho]; simp only; rw [if_pos hc]; rfl⟩
        · cases h
      · cases h
    · cases h

theorem app_loc {op : AOp} {e : Env} {s s1 : St} {v : V} (hm : isApp op = true) (h : evOp op e s = some (v, s1)) :
    ∃ b', s1 = ⟨s.obs, b'⟩ ∧ ∀ s2 : St, s2.bufs = s.bufs → evOp op e s2 = some (v, ⟨s2.obs, b'⟩) := by
  cases op <;> simp only [isApp] at hm <;> try (cases hm; done)
  case app str sz by_ x y =>
    simp only [evOp, evApp] at h ⊢
    split at h
    · rename_i o xs ys hx hy
      rw [hx] at h ⊢
      split at h
      · rename_i h0
        simp only [Option.some.injEq, Prod.mk.injEq] at h
        obtain ⟨rfl, rfl⟩ := h
        exact ⟨s.bufs, rfl, fun s2 h2 => by rw [if_pos h0, ← h2]⟩
      · rename_i h0
        split at h
        · rename_i h1
          split at h
          · cases h
          · split at h
            · rename_i h3
              simp only [Option.some.injEq, Prod.mk.injEq] at h
              obtain ⟨rfl, rfl⟩ := h
              exact ⟨_, rfl, fun s2 h2 => by rw [if_neg h0, if_pos h1, if_pos h3, ← h2]⟩
            · cases h
          · split at h
            · rename_i h3
              simp only [Option.some.injEq, Prod.mk.injEq] at h
              obtain ⟨rfl, rfl⟩ := h
              exact ⟨_, rfl, fun s2 h2 => by rw [if_neg h0, if_pos h1, if_pos h3, ← h2]⟩
            · cases h
          · split at h
            · rename_i h3
              simp only [Option.some.injEq, Prod.mk.injEq] at h
              obtain ⟨rfl, rfl⟩ := h
              exact ⟨_, rfl, fun s2 h2 => by rw [if_neg h0, if_pos h1, h2, if_pos h3]⟩
            · cases h
        · cases h
    · cases h

  case appz sz by_ x y =>
    simp only [evOp, evAppz] at h ⊢
    split at h
    · rename_i o xs oy z hx hy
      split at h
      · rename_i h1
        split at h
        · cases h
        · split at h
          · rename_i h3
            simp only [Option.some.injEq, Prod.mk.injEq] at h
            obtain ⟨rfl, rfl⟩ := h
            exact ⟨_, rfl, fun s2 h2 => by rw [if_pos h1, if_pos h3, ← h2]⟩
          · cases h
        · split at h
          · rename_i h3
            simp only [Option.some.injEq, Prod.mk.injEq] at h
            obtain ⟨rfl, rfl⟩ := h
            exact ⟨_, rfl, fun s2 h2 => by rw [if_pos h1, if_pos h3, ← h2]⟩
          · cases h
        · split at h
          · rename_i h3
            simp only [Option.some.injEq, Prod.mk.injEq] at h
            obtain ⟨rfl, rfl⟩ := h
            exact ⟨_, rfl, fun s2 h2 => by rw [if_pos h1, h2, if_pos h3]⟩
          · cases h
      · cases h
    · cases h
  case stz n p x =>
    simp only [evOp, evStz] at h ⊢
    split at h
    · rename_i i sz k hp
      split at h
      · rename_i m b t hb
        split at h
        · rename_i h1
          simp only [Option.some.injEq, Prod.mk.injEq] at h
          obtain ⟨rfl, rfl⟩ := h
          exact ⟨_, rfl, fun s2 h2 => by rw [h2, hb]; exact if_pos h1⟩
        · cases h
      · cases h
    · cases h

theorem new_loc {op : AOp} {e : Env} {s s1 : St} {v : V} (hm : isNew op = true) (h : evOp op e s = some (v, s1)) :
    ∃ o, v = .ptr s.obs.length 0 ∧ s1 = ⟨s.obs ++ [o], s.bufs⟩ ∧ (∀ s2 : St, evOp op e s2 = some (.ptr s2.obs.length 0, ⟨s2.obs ++ [o], s2.bufs⟩)) ∧ ∃ t cs, o = .cells t cs := by
  cases op <;> simp only [isNew] at hm <;> try (cases hm; done)
  case new t cs =>
    simp only [evOp, Option.some.injEq, Prod.mk.injEq] at h
    exact ⟨_, h.1.symm, h.2.symm, fun s2 => rfl, _, _, rfl⟩

theorem get_app {l : List AObj} {i : Nat} {o o' : AObj} (h : l[i]? = some o) : (l ++ [o'])[i]? = some o := by
  rw [List.getElem?_append_left (List.getElem?_eq_some_iff.1 h).1]; exact h

/-- What reads sees the same with one object more. -/
theorem read_app {op : AOp} (hp : isLoud ⟨none, none, op⟩ = false) (hc : isCall op = false) {e : Env} {s s1 : St} {v : V} (h : evOp op e s = some (v, s1)) (o : AObj) :
    evOp op e ⟨s.obs ++ [o], s.bufs⟩ = some (v, ⟨s.obs ++ [o], s.bufs⟩) := by
  cases hq : cls op with
  | pure => exact (evOp_pure hq h).2 _
  | turns => simp [isLoud, hq] at hp
  | reads =>
    cases op <;> simp only [cls] at hq <;> try (cases hq; done)
    case load n x =>
      simp only [evOp] at h ⊢
      generalize x.ev e = X at h ⊢
      unfold evLoad at h ⊢
      split at h
      · split at h
        · rename_i ho
          obtain ⟨u, hu, rfl, rfl⟩ := map_pair h
          simp only [get_app ho, hu]
          rfl
        · rename_i ho
          obtain ⟨u, hu, rfl, rfl⟩ := map_pair h
          simp only [get_app ho, hu]
          rfl
        · cases h
      · obtain ⟨u, hu, rfl, rfl⟩ := map_pair h
        simp only [hu]
        rfl
      · cases h
    case len k x =>
      simp only [evOp] at h ⊢
      generalize x.ev e = X at h ⊢
      unfold evLen at h ⊢
      split at h
      · simp only [Option.some.injEq, Prod.mk.injEq] at h; obtain ⟨rfl, rfl⟩ := h; rfl
      · simp only [Option.some.injEq, Prod.mk.injEq] at h; obtain ⟨rfl, rfl⟩ := h; rfl
      · simp only [Option.some.injEq, Prod.mk.injEq] at h; obtain ⟨rfl, rfl⟩ := h; rfl
      · simp only [Option.some.injEq, Prod.mk.injEq] at h; obtain ⟨rfl, rfl⟩ := h; rfl
      · split at h
        · rename_i ho
          simp only [Option.some.injEq, Prod.mk.injEq] at h
          obtain ⟨rfl, rfl⟩ := h
          simp only [get_app ho]
        · cases h
      · cases h
    case look k z ok m x =>
      simp only [evOp] at h ⊢
      generalize x.ev e = X at h ⊢
      generalize m.ev e = M at h ⊢
      unfold evLookup at h ⊢
      split at h
      · split at h
        · rename_i hk
          obtain ⟨u, hu, rfl, rfl⟩ := map_pair h
          simp only [hk, hu]
          rfl
        · cases h
      · split at h
        · rename_i ho
          split at h
          · rename_i hk
            obtain ⟨u, hu, rfl, rfl⟩ := map_pair h
            simp only [get_app ho, hk, hu]
            rfl
          · cases h
        · cases h
      · cases h
    case call o q f x => simp [isCall] at hc
    case slc n x a b =>
      simp only [evOp] at h ⊢
      obtain ⟨u, hu, rfl, hss⟩ := map_pair h
      clear hss
      have : evSlc n (x.ev e) (a.map (·.ev e)) (b.map (·.ev e)) ⟨s.obs ++ [o], s.bufs⟩ = some u := by
        generalize x.ev e = X at hu ⊢
        unfold evSlc at hu ⊢
        split at hu
        · split at hu
          · rename_i h1 h2 ho
            simp only [h1, h2, get_app ho]
            exact hu
          · cases hu
        · exact hu
        · cases hu
      rw [this]
      rfl
    case slc3 n x a b c =>
      simp only [evOp] at h ⊢
      obtain ⟨u, hu, rfl, hss⟩ := map_pair h
      clear hss
      have : evSlc3 n (x.ev e) (a.ev e) (b.ev e) (c.ev e) ⟨s.obs ++ [o], s.bufs⟩ = some u := by
        generalize x.ev e = X at hu ⊢
        unfold evSlc3 at hu ⊢
        split at hu
        · rename_i h1 h2 h3
          split at hu
          · rename_i ho
            simp only [h1, h2, h3, get_app ho]
            exact hu
          · cases hu
        · cases hu
      rw [this]
      rfl
    case sdata x =>
      simp only [evOp] at h ⊢
      generalize x.ev e = X at h ⊢
      (repeat' split at h) <;> first | (simp only [Option.some.injEq, Prod.mk.injEq] at h; obtain ⟨rfl, rfl⟩ := h; simp_all) | cases h
    case ustr u x y =>
      simp only [evOp] at h ⊢
      generalize x.ev e = X at h ⊢
      generalize y.ev e = Y at h ⊢
      (repeat' split at h) <;> first | (obtain ⟨u, hu, rfl, rfl⟩ := map_pair h; simp_all) | (simp only [Option.some.injEq, Prod.mk.injEq] at h; obtain ⟨rfl, rfl⟩ := h; simp_all) | cases h
    case pu x =>
      simp only [evOp] at h ⊢
      generalize x.ev e = X at h ⊢
      split at h
      · split at h
        · rename_i ho
          split at h
          · rename_i hc
            simp only [Option.some.injEq, Prod.mk.injEq] at h
            obtain ⟨rfl, hss⟩ := h
            simp only [get_app ho]
            rw [if_pos hc]
          · cases h
        · cases h
      · cases h
    case up u n x =>
      simp only [evOp] at h ⊢
      generalize x.ev e = X at h ⊢
      split at h
      · split at h
        · rename_i ho
          split at h
          · rename_i hc
            simp only [Option.some.injEq, Prod.mk.injEq] at h
            obtain ⟨rfl, hss⟩ := h
            simp only [get_app ho]
            rw [if_pos hc]
          · cases h
        · cases h
      · cases h

theorem RowSem.run_of {f : FRow} {e : Env} {s s1 : St} {v : V} (hc : isCall f.op = false) (h : RowSem P B w0 f e s v s1) : (satV f.guard e ∧ evOp f.op e s = some (v, s1)) ∨ (unsV f.guard e ∧ v = .tup [] ∧ s1 = s) := by
  cases h with
  | run _ _ hs he => exact .inl ⟨hs, he⟩
  | skip hu => exact .inr ⟨hu, rfl, rfl⟩
  | call own qu fx as g first cap _ _ _ _ hop _ _ _ => rw [hop] at hc; simp [isCall] at hc
  | fr fx as g first cap _ _ _ hop _ _ => rw [hop] at hc; simp [isCall] at hc

theorem isMem_call {op : AOp} (h : isMem op = true) : isCall op = false := by cases op <;> simp [isMem, isCall] at h ⊢
theorem isApp_call {op : AOp} (h : isApp op = true) : isCall op = false := by cases op <;> simp [isApp, isCall] at h ⊢
theorem isNew_call {op : AOp} (h : isNew op = true) : isCall op = false := by cases op <;> simp [isNew, isCall] at h ⊢

theorem memV_addr {op : AOp} {x : Nat} (h : addrS op = some x) (e : Env) : memV op e = e x := by
  cases op <;> simp only [addrS] at h <;> try (cases h; done)
  case load n p => cases p <;> simp at h; subst h; rfl
  case store n p y => cases p <;> simp at h; subst h; rfl

theorem wr_bufs (w : Option (Nat × AObj)) (s : St) : (wr w s).bufs = s.bufs := by cases w <;> rfl
theorem wr_len (w : Option (Nat × AObj)) (s : St) : (wr w s).obs.length = s.obs.length := by cases w <;> simp [wr]
theorem wr_obs (w : Option (Nat × AObj)) (s : St) (b : List (Nat × Nat × TypeId)) : wr w ⟨s.obs, b⟩ = ⟨(wr w s).obs, b⟩ := by cases w <;> rfl
theorem wr_get {w : Option (Nat × AObj)} {s : St} {i : Nat} (h : ∀ k o, w = some (k, o) → k ≠ i) : (wr w s).obs[i]? = s.obs[i]? := by
  cases w with
  | none => rfl
  | some p =>
    obtain ⟨k, o⟩ := p
    simp only [wr]
    exact List.getElem?_set_ne (h k o rfl)
theorem wr_comm {w w' : Option (Nat × AObj)} {s : St} (h : ∀ k o k' o', w = some (k, o) → w' = some (k', o') → k ≠ k') : wr w (wr w' s) = wr w' (wr w s) := by
  cases w with
  | none => rfl
  | some p =>
    cases w' with
    | none => rfl
    | some p' =>
      obtain ⟨k, o⟩ := p
      obtain ⟨k', o'⟩ := p'
      simp only [wr]
      rw [List.set_comm _ _ (h k o k' o' rfl rfl).symm]
theorem wr_app {w : Option (Nat × AObj)} {s : St} {o' : AObj} (h : ∀ k o, w = some (k, o) → k < s.obs.length) : wr w ⟨s.obs ++ [o'], s.bufs⟩ = ⟨(wr w s).obs ++ [o'], s.bufs⟩ := by
  cases w with
  | none => rfl
  | some p =>
    obtain ⟨k, o⟩ := p
    simp only [wr]
    rw [List.set_append_left _ _ (h k o rfl)]

theorem addrS_uses {op : AOp} {y : Nat} (hy : addrS op = some y) : y ∈ usesO op := by
  revert hy
  cases op <;> simp only [addrS] <;> try (intro h; cases h; done)
  · rename_i n x; cases x <;> simp [usesO, usesX]; intro h; exact h.symm
  · rename_i n x z; cases x <;> simp [usesO, usesX]; intro h; exact .inl h.symm

theorem Framed.wr {g : FuncId} {args : List V} {s s' : St} {v : V} (h : Framed P B w0 g args s v s') {w : Option (Nat × AObj)} (hw : ∀ k o, w = some (k, o) → topL args ≤ k) :
    Framed P B w0 g args (Eng.wr w s) v (Eng.wr w s') := by
  cases w with
  | none => exact h
  | some p =>
    obtain ⟨k, o⟩ := p
    have hk := hw k o rfl
    obtain ⟨s1, h1, hok, rfl⟩ := h
    have ht : (s.obs.set k o).take (topL args) = s.obs.take (topL args) := by
      apply List.ext_getElem?
      intro i
      simp only [List.getElem?_take]
      split
      · rw [List.getElem?_set_ne (by omega)]
      · rfl
    obtain ⟨q1, q2, q3, q4, q5, q6⟩ := hok
    refine ⟨s1, by simpa only [frIn, Eng.wr, ht] using h1, ⟨by simpa [Eng.wr] using q1, q2, by simpa only [Eng.wr, ht] using q3, q4, q5, by simpa only [Eng.wr, ht] using q6⟩, ?_⟩
    have hl : s1.obs.length = topL args := by
      have := congrArg List.length q6
      simp only [List.length_map, List.length_take] at this
      omega
    simp only [Eng.wr]
    congr 1
    rw [List.set_append_right _ _ (by omega), List.drop_set, if_neg (by omega), hl]

theorem Framed.buf {g : FuncId} {args : List V} {s s' : St} {v : V} (h : Framed P B w0 g args s v s') (b : List (Nat × Nat × TypeId)) : Framed P B w0 g args ⟨s.obs, b⟩ v ⟨s'.obs, b⟩ := by
  obtain ⟨s1, h1, ⟨q1, q2, q3, q4, q5, q6⟩, rfl⟩ := h
  exact ⟨s1, h1, ⟨q1, q2, q3, q4, q5, q6⟩, rfl⟩

theorem Framed.same {g : FuncId} {args : List V} {s s' : St} {v : V} (h : Framed P B w0 g args s v s') : s'.bufs = s.bufs ∧ topL args ≤ s.obs.length ∧ s'.obs.length = s.obs.length ∧ ∀ k, topL args ≤ k → s'.obs[k]? = s.obs[k]? := by
  obtain ⟨s1, h1, ⟨q1, q2, q3, q4, q5, q6⟩, rfl⟩ := h
  have hl : s1.obs.length = topL args := by
    have := congrArg List.length q6
    simp only [List.length_map, List.length_take] at this
    omega
  refine ⟨rfl, q1, by simp; omega, fun k hk => ?_⟩
  show (s1.obs ++ s.obs.drop (topL args))[k]? = _
  rw [List.getElem?_append_right (by omega), List.getElem?_drop]
  congr 1
  omega

theorem Framed.push {g : FuncId} {args : List V} {s s' : St} {v : V} (h : Framed P B w0 g args s v s') (o : AObj) : Framed P B w0 g args ⟨s.obs ++ [o], s.bufs⟩ v ⟨s'.obs ++ [o], s'.bufs⟩ := by
  obtain ⟨s1, h1, ⟨q1, q2, q3, q4, q5, q6⟩, rfl⟩ := h
  have q1' : topL args ≤ s.obs.length := q1
  have ht : (s.obs ++ [o]).take (topL args) = s.obs.take (topL args) := List.take_append_of_le_length q1'
  have hd : (s.obs ++ [o]).drop (topL args) = s.obs.drop (topL args) ++ [o] := List.drop_append_of_le_length q1'
  refine ⟨s1, by simpa only [frIn, ht] using h1, ⟨?_, q2, by simpa only [ht] using q3, q4, q5, by simpa only [ht] using q6⟩, ?_⟩
  · show topL args ≤ (s.obs ++ [o]).length
    rw [List.length_append]; omega
  · simp only [hd, List.append_assoc]

theorem frArgs_some {op : AOp} {as : List X} (h : frArgs op = some as) : ∃ g, op = .call true true (.c (.fn (.func g) [] [])) as := by
  unfold frArgs at h
  split at h
  · cases h; exact ⟨_, rfl⟩
  · cases h

theorem RowSem.fr_of {f : FRow} {e : Env} {s s1 : St} {v : V} {as : List X} (hf : frArgs f.op = some as) (h : RowSem P B w0 f e s v s1) :
    ∃ g, f.op = .call true true (.c (.fn (.func g) [] [])) as ∧ ((satV f.guard e ∧ Framed P B w0 g (as.map fun x => (x.ev e).plain) s v s1) ∨ (unsV f.guard e ∧ v = .tup [] ∧ s1 = s)) := by
  obtain ⟨g, hop⟩ := frArgs_some hf
  refine ⟨g, hop, ?_⟩
  cases h with
  | run _ _ _ he => rw [hop] at he; simp [evOp] at he
  | skip hu => exact .inr ⟨hu, rfl, rfl⟩
  | call own qu fx as' g' first cap _ _ hoq _ hop' _ _ _ =>
    rw [hop] at hop'
    cases hop'
    cases hoq
  | fr fx as' g' first cap _ _ hs hop' hfx hF =>
    rw [hop] at hop'
    cases hop'
    simp only [X.ev] at hfx
    cases hfx
    exact .inl ⟨hs, by simpa using hF⟩

theorem RowSem.fr_mk {f : FRow} {e : Env} {s s1 : St} {v : V} {as : List X} {g : FuncId} (hop : f.op = .call true true (.c (.fn (.func g) [] [])) as) (hs : satV f.guard e)
    (hF : Framed P B w0 g (as.map fun x => (x.ev e).plain) s v s1) : RowSem P B w0 f e s v s1 :=
  .fr _ as g [] [] _ _ hs hop rfl (by simpa using hF)

theorem frMem_spec {fs : List FRow} {aps : List (Nat × Nat)} {c m : AOp} {wc wm : Nat} (h : frMem fs aps c wc m wm = true) :
    ∃ as y, frArgs c = some as ∧ addrS m = some y ∧ isMem m = true ∧ stable fs wm y = true ∧ (∀ t, X.tmp t ∈ as → ((y, 1000000 + t) ∈ aps ∧ t < 1000000) ∧ stable fs wc t = true) ∧ ∀ v, X.c v ∈ as → plainC v = true := by
  unfold frMem at h
  split at h
  · rename_i as y h1 h2
    simp only [Bool.and_eq_true, frPair, List.all_eq_true] at h
    obtain ⟨h3, h4, h5⟩ := h
    refine ⟨as, y, h1, h2, h3, h4, fun t ht => ?_, fun v hv => h5 _ hv⟩
    have := h5 _ ht
    simp only [Bool.and_eq_true, List.contains_iff_mem, decide_eq_true_eq] at this
    exact this
  · cases h

/-- What the framed call is given stands ahead of what the other row looks at. -/
theorem fr_under {aps : List (Nat × Nat)} {as : List X} {y : Nat} {e' ec em : Env} (hap : aparts aps e' = true) (h1 : ∀ t, X.tmp t ∈ as → (y, 1000000 + t) ∈ aps ∧ t < 1000000) (h2 : ∀ v, X.c v ∈ as → plainC v = true)
    (hc : ∀ t, X.tmp t ∈ as → ec t = e' t ∨ ec t = .junk ∨ e' t = .junk) (hm : ∀ t, X.tmp t ∈ as → em y = e' y ∨ em y = .junk ∨ e' y = .junk) {id off : Nat} (hp : em y = .ptr id off) :
    topL (as.map fun x => (x.ev ec).plain) ≤ id := by
  refine topL_le ?_
  intro v hv
  obtain ⟨x, hx, rfl⟩ := List.mem_map.1 hv
  refine Nat.le_trans (V.top_plain _) ?_
  cases x with
  | c v =>
    have := h2 v hx
    unfold plainC at this
    simp only [X.ev]
    split at this <;> first | (simp [V.top]; done) | cases this
  | tmp t =>
    simp only [X.ev]
    unfold aparts at hap
    rw [List.all_eq_true] at hap
    have hu := hap _ (h1 t hx).1
    have hlt := (h1 t hx).2
    simp only [apart2] at hu
    rw [if_neg (by omega), if_pos (by omega)] at hu
    have e1 : 1000000 + t - 1000000 = t := by omega
    rw [e1] at hu
    have hy : em y = e' y := by
      rcases hm t hx with h | h | h
      · exact h
      · rw [hp] at h; cases h
      · exfalso
        rw [h] at hu
        cases hq : e' t <;> rw [hq] at hu <;> simp [under] at hu
    rw [← hy, hp] at hu
    rcases hc t hx with h | h | h
    · rw [h]
      cases hq : e' t <;> rw [hq] at hu <;> simp only [under, decide_eq_true_eq] at hu <;> first | exact hu | cases hu
    · rw [h]; simp [V.top]
    · exfalso
      rw [h] at hu
      simp [under] at hu

theorem sc {fs : List FRow} {aps : List (Nat × Nat)} {calm : Bool} {a f : FRow} {i j : Nat} (hk : pairOk fs aps calm a j f i = true) {ea ef : Env} {s s1 s2 : St} {va vf : V} (ha : RowSem P B w0 a ea s va s1) (hf : RowSem P B w0 f ef s1 vf s2)
    (hcalm : calm = true → ∀ (i : Nat) (o : AObj), s.obs[i]? = some o → o.und s.obs.length s.bufs.length = true)
    {e' : Env} (hap0 : aparts aps e' = true)
    (hap1 : ∀ x y, y ∈ usesO f.op → stable fs j x = true → stable fs i y = true → (ea x = e' x ∨ ea x = .junk ∨ e' x = .junk) ∧ (ef y = e' y ∨ ef y = .junk ∨ e' y = .junk)) :
    ∃ s1', RowSem P B w0 f ef s vf s1' ∧ RowSem P B w0 a ea s1' va s2 := by
  have hap : ∀ x y, addrS a.op = some x → addrS f.op = some y → (x, y) ∈ aps → y < 1000000 → stable fs j x = true → stable fs i y = true → apart (ea x) (ef y) = true ∨ ea x = .junk ∨ ef y = .junk := by
    intro x y hx hy hxy hlt hsx hsy
    have hax : apart (e' x) (e' y) = true := by
      unfold aparts at hap0
      rw [List.all_eq_true] at hap0
      have := hap0 _ hxy
      simp only [apart2] at this
      rw [if_pos hlt] at this
      exact this
    obtain ⟨g1, g2⟩ := hap1 x y (addrS_uses hy) hsx hsy
    rcases g1 with g1 | g1 | g1
    · rcases g2 with g2 | g2 | g2
      · exact .inl (by rw [g1, g2]; exact hax)
      · exact .inr (.inr g2)
      · rw [g2] at hax; cases h0 : e' x <;> rw [h0] at hax <;> simp [apart] at hax
    · exact .inr (.inl g1)
    · rw [g1] at hax; simp [apart] at hax
  simp only [pairOk, Bool.or_eq_true, Bool.and_eq_true, Bool.not_eq_true'] at hk
  rcases hk with (((((hk | h) | h) | h) | h) | h)
  rotate_left 5
  · -- a framed call, ahead of a new object
    obtain ⟨h, hmf⟩ := h
    obtain ⟨as, hfa⟩ := Option.isSome_iff_exists.1 h
    obtain ⟨g, hop, ⟨hsa, hF⟩ | ⟨hua, rfl, rfl⟩⟩ := ha.fr_of hfa
    · rcases hf.run_of (isNew_call hmf) with ⟨hsf, hef⟩ | ⟨huf, rfl, rfl⟩
      · obtain ⟨o, rfl, rfl, kf, hoc⟩ := new_loc hmf hef
        have hk2 := kf s
        rw [← hF.same.2.2.1] at hk2
        exact ⟨⟨s.obs ++ [o], s.bufs⟩, .run _ _ hsf hk2, .fr_mk hop hsa (hF.push o)⟩
      · exact ⟨s, .skip huf, ha⟩
    · exact ⟨s2, hf, .skip hua⟩
  rotate_left
  · -- a framed call, ahead of a row that reads or writes an object
    obtain ⟨as, y, hfa, hya, hmf, hsy, htm, hcc⟩ := frMem_spec h
    obtain ⟨g, hop, ⟨hsa, hF⟩ | ⟨hua, rfl, rfl⟩⟩ := ha.fr_of hfa
    · rcases hf.run_of (isMem_call hmf) with ⟨hsf, hef⟩ | ⟨huf, rfl, rfl⟩
      · obtain ⟨wf, hwf, rfl, hvf, kf⟩ := mem_loc hmf hef
        rw [memV_addr hya] at hwf hvf kf
        have hun : ∀ id off, ef y = .ptr id off → topL (as.map fun x => (x.ev ea).plain) ≤ id := fun id off hp =>
          fr_under hap0 (fun t ht => (htm t ht).1) hcc (fun t ht => (hap1 t y (addrS_uses hya) (htm t ht).2 hsy).1) (fun t ht => (hap1 t y (addrS_uses hya) (htm t ht).2 hsy).2) hp
        refine ⟨wr wf s, .run _ _ hsf (kf s ?_), .fr_mk hop hsa (hF.wr ?_)⟩
        · intro id off hp
          exact (hF.same.2.2.2 id (hun id off hp)).symm
        · intro k o hk
          obtain ⟨off, hp⟩ := hwf k o hk
          exact hun k off hp
      · exact ⟨s, .skip huf, ha⟩
    · exact ⟨s2, hf, .skip hua⟩
  · -- ... behind it
    obtain ⟨as, x, hff, hxa, hma, hsx, htm, hcc⟩ := frMem_spec h
    rcases ha.run_of (isMem_call hma) with ⟨hsa, hea⟩ | ⟨hua, rfl, rfl⟩
    · obtain ⟨g, hop, ⟨hsf, hF⟩ | ⟨huf, rfl, rfl⟩⟩ := hf.fr_of hff
      · obtain ⟨wa, hwa, rfl, hva, ka⟩ := mem_loc hma hea
        rw [memV_addr hxa] at hwa hva ka
        have htu : ∀ t, X.tmp t ∈ as → t ∈ usesO f.op := fun t ht => by
          rw [hop]
          simp only [usesO, List.mem_append]
          exact .inr (List.mem_flatMap.2 ⟨_, ht, by simp [usesX]⟩)
        have hun : ∀ id off, ea x = .ptr id off → topL (as.map fun x => (x.ev ef).plain) ≤ id := fun id off hp =>
          fr_under hap0 (fun t ht => (htm t ht).1) hcc (fun t ht => (hap1 x t (htu t ht) hsx (htm t ht).2).2) (fun t ht => (hap1 x t (htu t ht) hsx (htm t ht).2).1) hp
        -- the call, ahead of it
        have hback : ∃ s3, Framed P B w0 g (as.map fun x => (x.ev ef).plain) s vf s3 ∧ wr wa s3 = s2 ∧ ∀ id off, ea x = .ptr id off → s3.obs[id]? = s.obs[id]? := by
          cases wa with
          | none => exact ⟨s2, hF, rfl, fun id off hp => hF.same.2.2.2 id (hun id off hp)⟩
          | some p =>
            obtain ⟨k, o⟩ := p
            obtain ⟨off0, hp0⟩ := hwa k o rfl
            have hk := hun k off0 hp0
            have hklt : k < s.obs.length := by
              rcases hva with ⟨q, qo, hq, hlt⟩ | ⟨cs, hq⟩
              · rw [hp0] at hq; cases hq; exact hlt
              · rw [hp0] at hq; cases hq
            have hs0 : wr (some (k, s.obs[k])) (wr (some (k, o)) s) = s := by
              simp only [wr, List.set_set]
              congr 1
              exact List.set_getElem_self hklt
            have hF2 := hF.wr (w := some (k, s.obs[k])) (by rintro k' o' ⟨⟩; exact hk)
            rw [hs0] at hF2
            refine ⟨_, hF2, ?_, fun id off hp => hF2.same.2.2.2 id (hun id off hp)⟩
            have hsm := hF.same.2.2.2 k hk
            have hln := hF.same.2.2.1
            have hlen : k < s2.obs.length := by rw [hln]; simpa [wr] using hklt
            simp only [wr, List.set_set]
            congr 1
            have : s2.obs[k]? = some o := by
              rw [hsm]
              simp only [wr]
              exact List.getElem?_set_self hklt
            rw [List.getElem?_eq_getElem hlen] at this
            have := Option.some.inj this
            rw [← this]
            exact List.set_getElem_self hlen
        obtain ⟨s3, hF3, hw3, h3⟩ := hback
        refine ⟨s3, .fr_mk hop hsf hF3, .run _ _ hsa ?_⟩
        rw [← hw3]
        exact ka s3 (fun id off hp => h3 id off hp)
      · exact ⟨s, .skip huf, ha⟩
    · exact ⟨s2, hf, .skip hua⟩
  · obtain ⟨h, hmf⟩ := h
    obtain ⟨as, hfa⟩ := Option.isSome_iff_exists.1 h
    obtain ⟨g, hop, ⟨hsa, hF⟩ | ⟨hua, rfl, rfl⟩⟩ := ha.fr_of hfa
    · rcases hf.run_of (isApp_call hmf) with ⟨hsf, hef⟩ | ⟨huf, rfl, rfl⟩
      · obtain ⟨b', rfl, kf⟩ := app_loc hmf hef
        exact ⟨⟨s.obs, b'⟩, .run _ _ hsf (kf s hF.same.1.symm), .fr_mk hop hsa (hF.buf b')⟩
      · exact ⟨s, .skip huf, ha⟩
    · exact ⟨s2, hf, .skip hua⟩
  · obtain ⟨hma, h⟩ := h
    obtain ⟨as, hff⟩ := Option.isSome_iff_exists.1 h
    rcases ha.run_of (isApp_call hma) with ⟨hsa, hea⟩ | ⟨hua, rfl, rfl⟩
    · obtain ⟨g, hop, ⟨hsf, hF⟩ | ⟨huf, rfl, rfl⟩⟩ := hf.fr_of hff
      · obtain ⟨b', rfl, ka⟩ := app_loc hma hea
        have hb2 := hF.same.1
        refine ⟨⟨s2.obs, s.bufs⟩, .fr_mk hop hsf (hF.buf s.bufs), .run _ _ hsa ?_⟩
        rw [ka ⟨s2.obs, s.bufs⟩ rfl]
        show some (va, (⟨s2.obs, b'⟩ : St)) = some (va, s2)
        have : b' = s2.bufs := hb2.symm
        rw [this]
      · exact ⟨s, .skip huf, ha⟩
    · exact ⟨s2, hf, .skip hua⟩
  rcases hk with ((((((((((h | h) | h) | h) | h) | h) | h) | h) | h) | h) | h)
  · have hl : isLoud a = false := by revert h; simp only [isPure, isLoud]; cases cls a.op <;> simp
    have e := ha.quiet hl
    subst e
    exact ⟨s2, hf, ha.pure h s2⟩
  · have hl : isLoud f = false := by revert h; simp only [isPure, isLoud]; cases cls f.op <;> simp
    have e := hf.quiet hl
    subst e
    exact ⟨s, hf.pure h s, ha⟩
  · have e := ha.quiet h.1
    subst e
    have e := hf.quiet h.2
    subst e
    exact ⟨_, hf, ha⟩
  · obtain ⟨⟨hma, hmf⟩, hx⟩ := h
    split at hx
    case h_2 => cases hx
    rename_i x y hxa hya
    simp only [Bool.and_eq_true, List.contains_iff_mem, decide_eq_true_eq] at hx
    have hap' := hap x y hxa hya hx.1.1.2 hx.1.1.1 hx.1.2 hx.2
    rcases ha.run_of (isMem_call hma) with ⟨hsa, hea⟩ | ⟨hua, rfl, rfl⟩
    · rcases hf.run_of (isMem_call hmf) with ⟨hsf, hef⟩ | ⟨huf, rfl, rfl⟩
      · obtain ⟨wa, hwa, rfl, hva, ka⟩ := mem_loc hma hea
        obtain ⟨wf, hwf, rfl, hvf, kf⟩ := mem_loc hmf hef
        rw [memV_addr hxa] at hwa hva ka
        rw [memV_addr hya] at hwf hvf kf
        have hne : ∀ p po q qo, ea x = .ptr p po → ef y = .ptr q qo → p ≠ q := by
          intro p po q qo h1 h2
          rw [h1, h2] at hap'
          rcases hap' with h | h | h
          · simpa [apart] using h
          · cases h
          · cases h
        refine ⟨wr wf s, .run _ _ hsf (kf s ?_), .run _ _ hsa ?_⟩
        · intro q qo hq
          refine (wr_get ?_).symm
          intro k o hk
          obtain ⟨po, hp⟩ := hwa k o hk
          exact hne _ _ _ _ hp hq
        · rw [wr_comm (w := wf) (w' := wa)]
          · refine ka (wr wf s) ?_
            intro p po hp
            refine wr_get ?_
            intro k o hk
            obtain ⟨qo, hq⟩ := hwf k o hk
            exact (hne _ _ _ _ hp hq).symm
          · intro k o k' o' h1 h2
            obtain ⟨qo, hq⟩ := hwf k o h1
            obtain ⟨po, hp⟩ := hwa k' o' h2
            exact (hne _ _ _ _ hp hq).symm
      · exact ⟨s, .skip huf, ha⟩
    · exact ⟨s2, hf, .skip hua⟩
  · obtain ⟨hma, hmf⟩ := h
    rcases ha.run_of (isMem_call hma) with ⟨hsa, hea⟩ | ⟨hua, rfl, rfl⟩
    · rcases hf.run_of (isApp_call hmf) with ⟨hsf, hef⟩ | ⟨huf, rfl, rfl⟩
      · obtain ⟨wa, hwa, rfl, hva, ka⟩ := mem_loc hma hea
        obtain ⟨b', rfl, kf⟩ := app_loc hmf hef
        refine ⟨⟨s.obs, b'⟩, .run _ _ hsf (kf s (wr_bufs _ _).symm), .run _ _ hsa ?_⟩
        rw [← wr_obs]
        exact ka _ (fun _ _ _ => rfl)
      · exact ⟨s, .skip huf, ha⟩
    · exact ⟨s2, hf, .skip hua⟩
  · obtain ⟨hma, hmf⟩ := h
    rcases ha.run_of (isApp_call hma) with ⟨hsa, hea⟩ | ⟨hua, rfl, rfl⟩
    · rcases hf.run_of (isMem_call hmf) with ⟨hsf, hef⟩ | ⟨huf, rfl, rfl⟩
      · obtain ⟨b', rfl, ka⟩ := app_loc hma hea
        obtain ⟨wf, hwf, rfl, hvf, kf⟩ := mem_loc hmf hef
        refine ⟨wr wf s, .run _ _ hsf (kf s (fun _ _ _ => rfl)), .run _ _ hsa ?_⟩
        rw [wr_obs wf s b']
        exact ka _ (wr_bufs _ _)
      · exact ⟨s, .skip huf, ha⟩
    · exact ⟨s2, hf, .skip hua⟩
  · obtain ⟨hma, hmf⟩ := h
    rcases ha.run_of (isNew_call hma) with ⟨hsa, hea⟩ | ⟨hua, rfl, rfl⟩
    · rcases hf.run_of (isApp_call hmf) with ⟨hsf, hef⟩ | ⟨huf, rfl, rfl⟩
      · obtain ⟨o, rfl, rfl, ka, _⟩ := new_loc hma hea
        obtain ⟨b', rfl, kf⟩ := app_loc hmf hef
        exact ⟨⟨s.obs, b'⟩, .run _ _ hsf (kf s rfl), .run _ _ hsa (ka _)⟩
      · exact ⟨s, .skip huf, ha⟩
    · exact ⟨s2, hf, .skip hua⟩
  · obtain ⟨hma, hmf⟩ := h
    rcases ha.run_of (isApp_call hma) with ⟨hsa, hea⟩ | ⟨hua, rfl, rfl⟩
    · rcases hf.run_of (isNew_call hmf) with ⟨hsf, hef⟩ | ⟨huf, rfl, rfl⟩
      · obtain ⟨b', rfl, ka⟩ := app_loc hma hea
        obtain ⟨o, rfl, rfl, kf, hoc⟩ := new_loc hmf hef
        exact ⟨⟨s.obs ++ [o], s.bufs⟩, .run _ _ hsf (kf s), .run _ _ hsa (ka _ rfl)⟩
      · exact ⟨s, .skip huf, ha⟩
    · exact ⟨s2, hf, .skip hua⟩
  · obtain ⟨hma, hmf⟩ := h
    rcases ha.run_of (isMem_call hma) with ⟨hsa, hea⟩ | ⟨hua, rfl, rfl⟩
    · rcases hf.run_of (isNew_call hmf) with ⟨hsf, hef⟩ | ⟨huf, rfl, rfl⟩
      · obtain ⟨wa, hwa, rfl, hva, ka⟩ := mem_loc hma hea
        obtain ⟨o, rfl, rfl, kf, hoc⟩ := new_loc hmf hef
        have hlt : ∀ p po, memV a.op ea = .ptr p po → p < s.obs.length := by
          intro p po hp
          rcases hva with ⟨q, qo, hq, hlt⟩ | ⟨cs, hq⟩
          · rw [hp] at hq; cases hq; exact hlt
          · rw [hp] at hq; cases hq
        have hk2 := kf s
        rw [← wr_len wa s] at hk2
        refine ⟨⟨s.obs ++ [o], s.bufs⟩, .run _ _ hsf hk2, .run _ _ hsa ?_⟩
        rw [wr_bufs, ← wr_app (s := s) (o' := o)]
        · exact ka _ (fun p po hp => List.getElem?_append_left (hlt p po hp))
        · intro k o' hk
          obtain ⟨po, hp⟩ := hwa k o' hk
          exact hlt _ _ hp
      · exact ⟨s, .skip huf, ha⟩
    · exact ⟨s2, hf, .skip hua⟩
  · obtain ⟨⟨hl, hca⟩, hmf⟩ := h
    have e := ha.quiet hl
    subst e
    rcases ha.run_of hca with ⟨hsa, hea⟩ | ⟨hua, rfl, _⟩
    · rcases hf.run_of (isNew_call hmf) with ⟨hsf, hef⟩ | ⟨huf, rfl, rfl⟩
      · obtain ⟨o, rfl, rfl, kf, hoc⟩ := new_loc hmf hef
        exact ⟨_, hf, .run _ _ hsa (read_app hl hca hea o)⟩
      · exact ⟨_, .skip huf, ha⟩
    · exact ⟨s2, hf, .skip hua⟩
  · obtain ⟨⟨hcm, hl⟩, hmf⟩ := h
    have e := ha.quiet hl
    subst e
    rcases hf.run_of (isNew_call hmf) with ⟨hsf, hef⟩ | ⟨huf, rfl, rfl⟩
    · obtain ⟨o, rfl, rfl, kf, t, cs, rfl⟩ := new_loc hmf hef
      cases ha with
      | skip hu => exact ⟨_, hf, .skip hu⟩
      | run _ _ hs he =>
        have hca : isCall a.op = false := by
          cases hop : a.op <;> first | rfl | (rw [hop] at he; simp [evOp] at he)
        exact ⟨_, hf, .run _ _ hs (read_app hl hca he _)⟩
      | fr fx as g first cap _ _ _ hop _ _ => simp [isLoud, hop, cls] at hl
      | call own qu fx as g first cap _ _ hoq hs hop hfx hcall hq =>
        have hqu : qu = true := by
          cases qu with
          | true => rfl
          | false => cases own <;> simp [isLoud, hop, cls] at hl
        obtain ⟨_, hund⟩ := hq hqu
        refine ⟨_, hf, .call own qu fx as g first cap _ _ hoq hs hop hfx (hcall.more hund (hcalm hcm) t cs) (fun _ => ⟨rfl, ?_⟩)⟩
        exact undL_mono (by simp) (Nat.le_refl _) _ hund
    · exact ⟨_, .skip huf, ha⟩

/-- A row hangs on the slots that it looks at alone. -/
theorem RowSem.congr {f : FRow} {e e2 : Env} {s s1 : St} {v : V} (h : RowSem P B w0 f e s v s1) (hu : ∀ t, t ∈ f.uses → e t = e2 t) : RowSem P B w0 f e2 s v s1 := by
  have hg : ∀ q, f.guard = some q → e2 q.1 = e q.1 := fun q hq => (hu q.1 (by simp [FRow.uses, hq, usesG])).symm
  have ho : ∀ t, t ∈ usesO f.op → e t = e2 t := fun t ht => hu t (by simp [FRow.uses, ht])
  cases h with
  | run _ _ hs he => exact .run _ _ (hs.mono hg) (by rw [← evOp_congr ho]; exact he)
  | skip hs => exact .skip (hs.mono hg)
  | fr fx as g first cap _ _ hs hop hf hcall =>
    rw [hop] at ho
    simp only [usesO, List.mem_append] at ho
    have hcong : (as.map fun x => (x.ev e2).plain) = as.map fun x => (x.ev e).plain := by
      refine List.map_congr_left fun x hx => ?_
      have hq : x.ev e2 = x.ev e := (ev_congr (x := x) (fun t ht => ho t (.inr (List.mem_flatMap.2 ⟨x, hx, ht⟩)))).symm
      rw [hq]
    refine .fr fx as g first cap _ _ (hs.mono hg) hop ?_ ?_
    · rw [← ev_congr (x := fx) (fun t ht => ho t (.inl ht))]; exact hf
    · rw [hcong]
      exact hcall
  | call own qu fx as g first cap _ _ hoq hs hop hf hcall hq =>
    rw [hop] at ho
    simp only [usesO, List.mem_append] at ho
    have hcong : (as.map fun x => if own = true then x.ev e2 else (x.ev e2).plain) = as.map fun x => if own = true then x.ev e else (x.ev e).plain := by
      refine List.map_congr_left fun x hx => ?_
      have hq : x.ev e2 = x.ev e := (ev_congr (x := x) (fun t ht => ho t (.inr (List.mem_flatMap.2 ⟨x, hx, ht⟩)))).symm
      rw [hq]
    refine .call own qu fx as g first cap _ _ hoq (hs.mono hg) hop ?_ ?_ ?_
    · rw [← ev_congr (x := fx) (fun t ht => ho t (.inl ht))]; exact hf
    · rw [hcong]
      exact hcall
    · rw [hcong]
      exact hq

theorem less_only (ts : List Nat) (e : Env) : Less (only ts e) e := fun t => by
  simp only [only]
  split
  · exact .inl rfl
  · exact .inr rfl

/-- Two rows, one behind the other, change places. -/
theorem Trd.swap {a f : FRow} {rs : List FRow} {e e' : Env} {s s' : St} (h1 : ∀ t, a.dst = some t → t ∉ f.uses) (h2 : ∀ t, f.dst = some t → t ∉ a.uses) (h3 : ∀ t, a.dst = some t → f.dst ≠ some t)
    (hk : ∀ ea ef s1 s2 va vf, Less ea e → Less ef (put e a.dst va) → RowSem P B w0 a ea s va s1 → RowSem P B w0 f ef s1 vf s2 → ∃ s1', RowSem P B w0 f ef s vf s1' ∧ RowSem P B w0 a ea s1' va s2)
    (h : Trd P B w0 (a :: f :: rs) e s e' s') : Trd P B w0 (f :: a :: rs) e s e' s' := by
  cases h with
  | cons _ _ _ ea _ _ s1 _ va hla hra h =>
    cases h with
    | cons _ _ _ ef _ _ s2 _ vf hlf hrf h =>
      obtain ⟨s1', hf', ha'⟩ := hk ea ef s1 s2 va vf hla hlf hra hrf
      refine .cons f _ e (only f.uses ef) e' s s1' s' vf ?_ (hf'.congr (fun t ht => by simp [only, ht])) ?_
      · intro t
        simp only [only]
        split
        · rename_i ht
          rcases hlf t with h | h
          · left
            rw [h, put_get']
            intro hm
            cases hd : a.dst with
            | none => rw [hd] at hm; simp at hm
            | some d =>
              rw [hd] at hm
              simp at hm
              subst hm
              exact h1 _ hd ht
          · exact .inr h
        · exact .inr rfl
      · refine .cons a _ _ (only a.uses ea) e' s1' s2 s' va ?_ (ha'.congr (fun t ht => by simp [only, ht])) ?_
        · intro t
          simp only [only]
          split
          · rename_i ht
            rw [put_get' (e := e) (d := f.dst)]
            · exact hla t
            · intro hm
              cases hd : f.dst with
              | none => rw [hd] at hm; simp at hm
              | some d =>
                rw [hd] at hm
                simp at hm
                subst hm
                exact h2 _ hd ht
          · exact .inr rfl
        · rw [put_comm (fun t ht ht' => h3 t ht' ht)]
          exact h

/-- What is listed is closed: what stands ahead of it is listed too. -/
def Closed (ops : Array Oper) (L : Array Bool) : Prop := ∀ i, L.getD i false = true → ∀ j, j ∈ ahead ops i → L.getD j false = true

theorem Closed.far {ops : Array Oper} {L : Array Bool} (h : Closed ops L) : ∀ (k i j : Nat), L.getD i false = true → j ∈ ahead2 ops k i → L.getD j false = true
  | 0, i, j, _, hj => by simp [ahead2] at hj
  | k + 1, i, j, hi, hj => by
    simp only [ahead2, List.mem_flatMap, List.mem_cons] at hj
    obtain ⟨m, hm, rfl | hj⟩ := hj
    · exact h i hi _ hm
    · exact h.far k m j (h i hi m hm) hj

/-- Those ahead of one that may come up are listed. -/
theorem far_ready {ops : Array Oper} {L : Array Bool} (h : Closed ops L) {k i j : Nat} (hr : ∀ j, j ∈ ahead ops i → L.getD j false = true) (hj : j ∈ ahead2 ops k i) : L.getD j false = true := by
  cases k with
  | zero => simp [ahead2] at hj
  | succ k =>
    simp only [ahead2, List.mem_flatMap, List.mem_cons] at hj
    obtain ⟨m, hm, rfl | hj⟩ := hj
    · exact hr _ hm
    · exact h.far k m j (hr m hm) hj

theorem mem_ahead {ops : Array Oper} {i j : Nat} : j ∈ ahead ops i ↔ ∃ o, ops[i]? = some o ∧ ∃ e, e ∈ o.after ∧ Region.binds .any e = true ∧ e.on = j := by
  unfold ahead
  cases ho : ops[i]? with
  | none => simp
  | some o =>
    simp only [List.mem_map, List.mem_filter, Array.mem_toList_iff, Option.some.injEq, exists_eq_left']
    constructor
    · rintro ⟨e, ⟨h1, h2⟩, h3⟩; exact ⟨e, h1, h2, h3⟩
    · rintro ⟨e, h1, h2, h3⟩; exact ⟨e, ⟨h1, h2⟩, h3⟩

theorem ready_iff {ops : Array Oper} {L : Array Bool} (hL : L.size = ops.size) {j : Nat} : j ∈ Region.ready .any ops L ↔
    j < ops.size ∧ L.getD j false = false ∧ ∀ i, i ∈ ahead ops j → L.getD i false = true := by
  rw [mem_ready]
  constructor
  · rintro ⟨h0, o, ho, hall⟩
    have hlt : j < ops.size := (Array.getElem?_eq_some_iff.1 ho).1
    refine ⟨hlt, ?_, ?_⟩
    · rw [Array.getD_eq_getD_getElem?] at h0 ⊢
      rw [Array.getElem?_eq_getElem (by omega)] at h0 ⊢
      simpa using h0
    · intro i hi
      obtain ⟨o', ho', e, he, hb, rfl⟩ := mem_ahead.1 hi
      rw [ho] at ho'
      cases ho'
      exact hall e he hb
  · rintro ⟨hlt, h0, hall⟩
    refine ⟨?_, _, Array.getElem?_eq_getElem hlt, fun e he hb => hall _ (mem_ahead.2 ⟨_, Array.getElem?_eq_getElem hlt, e, he, hb, rfl⟩)⟩
    rw [Array.getD_eq_getD_getElem?] at h0 ⊢
    rw [Array.getElem?_eq_getElem (by omega)] at h0 ⊢
    simpa using h0

theorem set_getD {L : Array Bool} {i j : Nat} (hi : i < L.size) : (L.setIfInBounds i true).getD j false = if i = j then true else L.getD j false := by
  by_cases h : i = j
  · subst h
    simp [hi]
  · rw [if_neg h, getD_set_ne false h]

end
end Go.Proofs.YtboejpobmpfifaaGreatDoor.Eng
