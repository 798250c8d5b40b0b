/-
  The invariant between the store and the world, and the steps that keep it: a new object, an object turned, a draw, a growing buffer. No condition.
-/
import Derived.Test.YtboejpobmpfifaaGreatDoorEng3
namespace Go.Proofs.YtboejpobmpfifaaGreatDoor.Eng
open Go Go.RowKit

inductive RelE (S : Sit) : List (V × V × Nat) → List MapEntry → Prop
  | nil : RelE S [] []
  | cons (k v : V) (b : Nat) (es : List (V × V × Nat)) (e : MapEntry) (l : List MapEntry) : k.one = true → Rel S k e.key → Rel S v e.val → e.born = b →
      RelE S es l → RelE S ((k, v, b) :: es) (e :: l)

theorem RelE.mono0 {S S' : Sit} (h : Ext0 S S') {es : List (V × V × Nat)} {l : List MapEntry} (k : RelE S es l) : RelE S' es l := by
  induction k with
  | nil => exact .nil
  | cons k v b es e l h1 h2 h3 h4 _ ih => exact .cons k v b es e l h1 (h2.mono0 h) (h3.mono0 h) h4 ih
theorem RelE.mono {S S' : Sit} (h : Ext S S') {es : List (V × V × Nat)} {l : List MapEntry} (k : RelE S es l) : RelE S' es l := k.mono0 h.toExt0

def RelO (S : Sit) (o : AObj) (b : Nat) : Prop :=
  match o with
  | .cells e cs => ∃ cc, S.w.heap[b]? = some (.cells (List.toArray cc) e (0, 0)) ∧ RelL S cs cc
  | .map es clock => ∃ l, S.w.heap[b]? = some (.map (List.toArray l) clock) ∧ RelE S es l
  | .iter s pos => S.w.heap[b]? = some (.stringIter ⟨s.toArray⟩ pos)
  | .arr e cs => ∃ cc rest, S.w.heap[b]? = some (.cells (List.toArray (cc ++ rest)) e (0, 0)) ∧ RelL S cs cc
  | .dead => b < S.w.heap.size

theorem heap_lt_of {w w' : World} {b : Nat} (hb : w'.heap[b]? = w.heap[b]?) (h : b < w.heap.size) : b < w'.heap.size := by
  rcases Nat.lt_or_ge b w'.heap.size with q | q
  · exact q
  · rw [Array.getElem?_eq_none q, Array.getElem?_eq_getElem h] at hb; cases hb

theorem RelO.mono0 {S S' : Sit} (h : Ext0 S S') {o : AObj} {b : Nat} (hb : S'.w.heap[b]? = S.w.heap[b]?) (k : RelO S o b) : RelO S' o b := by
  cases o with
  | cells e cs => obtain ⟨cc, h1, h2⟩ := k; exact ⟨cc, hb.trans h1, h2.mono0 h⟩
  | map es clock => obtain ⟨l, h1, h2⟩ := k; exact ⟨l, hb.trans h1, h2.mono0 h⟩
  | iter s pos => exact hb.trans k
  | arr e cs => obtain ⟨cc, rest, h1, h2⟩ := k; exact ⟨cc, rest, hb.trans h1, h2.mono0 h⟩
  | dead => exact heap_lt_of hb k

theorem RelO.mono {S S' : Sit} (h : Ext S S') {o : AObj} {b : Nat} (hb : S'.w.heap[b]? = S.w.heap[b]?) (k : RelO S o b) : RelO S' o b := k.mono0 h.toExt0 hb

theorem RelO.lt {S : Sit} {o : AObj} {b : Nat} (k : RelO S o b) : b < S.w.heap.size := by
  by_cases hdd : o = .dead
  · subst hdd; exact k
  have : ∃ x, S.w.heap[b]? = some x := by
    cases o with
    | cells e cs => obtain ⟨cc, h1, _⟩ := k; exact ⟨_, h1⟩
    | map es clock => obtain ⟨l, h1, _⟩ := k; exact ⟨_, h1⟩
    | iter s pos => exact ⟨_, k⟩
    | arr e cs => obtain ⟨cc, rest, h1, _⟩ := k; exact ⟨_, h1⟩
    | dead => exact absurd rfl hdd
  obtain ⟨x, hx⟩ := this
  rcases Nat.lt_or_ge b S.w.heap.size with q | q
  · exact q
  · rw [Array.getElem?_eq_none q] at hx; cases hx

/-- A buffer that has a row. -/
def Sit.live (S : Sit) (i : Nat) : Prop := (S.ρ i).2.1 < (S.ρ i).2.2 ∨ ∃ m q, S.st.bufs[i]? = some (m, q) ∧ 0 < m

/-- What is frozen of a block stands ahead of a place. -/
def Froz (w : World) (b st : Nat) : Prop := ∀ cc e lo hi, w.heap[b]? = some (.cells cc e (lo, hi)) → lo ≤ hi ∧ (hi ≤ st ∨ lo = hi)

theorem Froz.mono {w : World} {b st st' : Nat} (h : Froz w b st) (hs : st ≤ st') : Froz w b st' := fun cc e lo hi hq => by
  obtain ⟨h1, h2⟩ := h cc e lo hi hq
  exact ⟨h1, h2.imp (fun q => Nat.le_trans q hs) id⟩
theorem Froz.of_block {w w' : World} {b st : Nat} (h : Froz w b st) (hb : w'.heap[b]? = w.heap[b]?) : Froz w' b st := fun cc e lo hi hq => h cc e lo hi (hb ▸ hq)

structure Inv (B : Nat) (w0 : World) (S : Sit) : Prop where
  below : Below B w0 S.w
  base : B ≤ S.w.heap.size
  obj : ∀ i o, S.st.obs[i]? = some o → B ≤ S.μ i ∧ RelO S o (S.μ i)
  inj : ∀ i j, i < S.st.obs.length → j < S.st.obs.length → S.μ i = S.μ j → i = j ∨ S.st.obs[i]? = some .dead ∨ S.st.obs[j]? = some .dead
  buf : ∀ i, i < S.st.bufs.length → ∀ j, (S.ρ i).2.1 ≤ j → j < (S.ρ i).2.2 →
    B ≤ (S.ρ i).1 ∧ (∃ c, S.w.cell? ⟨(S.ρ i).1, j, none⟩ = some c) ∧ S.w.frozen? ⟨(S.ρ i).1, j, none⟩ = false
  froz : ∀ i, i < S.st.bufs.length → (S.ρ i).2.1 < (S.ρ i).2.2 → Froz S.w (S.ρ i).1 (S.ρ i).2.1
  live : ∀ i, i < S.st.bufs.length → S.live i → B ≤ (S.ρ i).1 ∧ (S.ρ i).1 < S.w.heap.size
  bufobj : ∀ i k, i < S.st.bufs.length → k < S.st.obs.length → S.live i → (S.ρ i).1 ≠ S.μ k
  bufbuf : ∀ i j, i < S.st.bufs.length → j < S.st.bufs.length → i ≠ j → S.live i → S.live j → (S.ρ i).1 ≠ (S.ρ j).1
  hid : ∀ b q, S.hid b q → B ≤ b ∧ b < S.w.heap.size ∧ (∀ k, k < S.st.obs.length → S.μ k ≠ b) ∧ ∀ i, i < S.st.bufs.length → S.live i → (S.ρ i).1 ≠ b
  injc : ∀ i j t cs, S.st.obs[i]? = some (.cells t cs) → j < S.st.obs.length → S.μ i = S.μ j → i = j

theorem Inv.mu_lt {B : Nat} {w0 : World} {S : Sit} (h : Inv B w0 S) {i : Nat} (hi : i < S.st.obs.length) : S.μ i < S.w.heap.size :=
  (h.obj i _ (List.getElem?_eq_getElem hi)).2.lt

theorem Inv.mu_ge {B : Nat} {w0 : World} {S : Sit} (h : Inv B w0 S) {i : Nat} (hi : i < S.st.obs.length) : B ≤ S.μ i :=
  (h.obj i _ (List.getElem?_eq_getElem hi)).1

theorem Inv.rho_lt {B : Nat} {w0 : World} {S : Sit} (h : Inv B w0 S) {i : Nat} (hi : i < S.st.bufs.length) (hr : (S.ρ i).2.1 < (S.ρ i).2.2) : (S.ρ i).1 < S.w.heap.size := by
  obtain ⟨_, ⟨c, hc⟩, _⟩ := h.buf i hi _ (Nat.le_refl _) hr
  exact World.block_lt_of_cell? (a := ⟨(S.ρ i).1, _, none⟩) _ hc

/-- A draw. -/
def Sit.drew (S : Sit) : Sit := { S with w := S.w.drew }

theorem Ext.drew (S : Sit) : Ext S S.drew :=
  ⟨⟨Nat.le_refl _, fun _ _ => rfl, fun _ _ _ => rfl, fun _ _ h => h, Nat.le_refl _, Nat.le_refl _, fun _ _ => rfl, fun _ m b _ h => ⟨m, b, h, .inr (.inl ⟨rfl, rfl, rfl⟩)⟩, fun _ _ _ _ _ _ => rfl⟩, fun _ _ h => ⟨h, rfl⟩⟩

theorem Inv.drew {B : Nat} {w0 : World} {S : Sit} (h : Inv B w0 S) : Inv B w0 S.drew where
  below := h.below.drew
  base := h.base
  obj i o hi := ⟨(h.obj i o hi).1, (h.obj i o hi).2.mono (Ext.drew S) rfl⟩
  inj := h.inj
  buf := h.buf
  froz := h.froz
  live := h.live
  bufobj := h.bufobj
  bufbuf := h.bufbuf
  hid := h.hid
  injc := h.injc

/-- A new object. -/
def Sit.alloc (S : Sit) (o : AObj) (O : Obj) : Sit :=
  { st := ⟨S.st.obs ++ [o], S.st.bufs⟩, μ := fun i => if i = S.st.obs.length then S.w.heap.size else S.μ i, ρ := S.ρ, τ := S.τ, w := S.w.alloc O, hid := S.hid }

theorem shape_alloc_lt (w : World) (O : Obj) (b : Nat) (h : b < w.heap.size) : (w.alloc O).shape? b = w.shape? b := by
  simp only [World.shape?]
  rw [Below.heap_alloc w O b h]

theorem Ext.alloc {B : Nat} {w0 : World} {S : Sit} (h : Inv B w0 S) (o : AObj) (O : Obj) : Ext S (S.alloc o O) where
  size := by simp [Sit.alloc]
  shape b hb := shape_alloc_lt S.w O b hb
  cell a ha _ := World.cell?_alloc_lt S.w O a ha
  own a ha ho := by
    rcases ho with ⟨i, ⟨hi, hd⟩, hb⟩ | ⟨i, hi, hb⟩ | hh
    · simp only [Sit.alloc, List.length_append, List.length_cons, List.length_nil] at hi hb hd
      by_cases e : i = S.st.obs.length
      · rw [if_pos e] at hb; omega
      · rw [if_neg e] at hb
        rw [List.getElem?_append_left (by omega)] at hd
        exact .inl ⟨i, ⟨by omega, hd⟩, hb⟩
    · exact .inr (.inl ⟨i, hi, hb⟩)
    · exact .inr (.inr hh)
  hid b q hb := ⟨hb, Below.heap_alloc S.w O b (h.hid b q hb).2.1⟩
  obs := by simp [Sit.alloc]
  bufs := Nat.le_refl _
  mu i hi := by simp only [Sit.alloc]; rw [if_neg (by omega)]
  buf i m b _ hm := ⟨m, b, hm, .inr (.inl ⟨rfl, rfl, rfl⟩)⟩
  tau _ _ _ _ _ _ := rfl

theorem heap_alloc_lt (w : World) (O : Obj) (k : Nat) (h : k < w.heap.size) : (w.alloc O).heap[k]? = w.heap[k]? := Below.heap_alloc w O k h
theorem heap_alloc_new (w : World) (O : Obj) : (w.alloc O).heap[w.heap.size]? = some O := by show (w.heap.push O)[w.heap.size]? = _; simp

theorem Inv.alloc {B : Nat} {w0 : World} {S : Sit} (h : Inv B w0 S) {o : AObj} {O : Obj}
    (hO : RelO (S.alloc o O) o S.w.heap.size) : Inv B w0 (S.alloc o O) where
  below := h.below.alloc h.base O
  base := by have := h.base; simp only [Sit.alloc, World.size_alloc]; omega
  obj i p hp := by
    simp only [Sit.alloc] at hp ⊢
    by_cases e : i = S.st.obs.length
    · subst e
      simp at hp; subst hp
      rw [if_pos rfl]
      exact ⟨h.base, hO⟩
    · rw [if_neg e]
      have hi : i < S.st.obs.length := by
        rcases Nat.lt_trichotomy i S.st.obs.length with q | q | q
        · exact q
        · exact absurd q e
        · rw [List.getElem?_eq_none (by simp; omega)] at hp; cases hp
      rw [List.getElem?_append_left hi] at hp
      have := h.obj i p hp
      exact ⟨this.1, this.2.mono (Ext.alloc h o O) (heap_alloc_lt _ _ _ this.2.lt)⟩
  inj i j hi hj e := by
    simp only [Sit.alloc, List.length_append, List.length_cons, List.length_nil] at hi hj e
    by_cases ei : i = S.st.obs.length <;> by_cases ej : j = S.st.obs.length
    · omega
    · rw [if_pos ei, if_neg ej] at e
      have := h.mu_lt (i := j) (by omega)
      omega
    · rw [if_neg ei, if_pos ej] at e
      have := h.mu_lt (i := i) (by omega)
      omega
    · rw [if_neg ei, if_neg ej] at e
      have hii : (S.alloc o O).st.obs[i]? = S.st.obs[i]? := List.getElem?_append_left (by omega)
      have hjj : (S.alloc o O).st.obs[j]? = S.st.obs[j]? := List.getElem?_append_left (by omega)
      rw [hii, hjj]
      exact h.inj i j (by omega) (by omega) e
  buf i hi j h1 h2 := by
    obtain ⟨hb, ⟨c, hc⟩, hf⟩ := h.buf i hi j h1 h2
    have hlt : (S.ρ i).1 < S.w.heap.size := World.block_lt_of_cell? (a := ⟨(S.ρ i).1, j, none⟩) _ hc
    exact ⟨hb, ⟨c, (World.cell?_alloc_lt S.w O ⟨(S.ρ i).1, j, none⟩ hlt).trans hc⟩,
      (World.frozen?_alloc_old S.w O ⟨(S.ρ i).1, j, none⟩ (Nat.ne_of_lt hlt)).trans hf⟩
  froz i hi hr := by
    intro cc e lo hi' hq
    have hlt := h.rho_lt hi hr
    simp only [Sit.alloc] at hq
    rw [heap_alloc_lt _ _ _ hlt] at hq
    exact h.froz i hi hr cc e lo hi' hq
  bufobj i k hi hk hr := by
    simp only [Sit.alloc, List.length_append, List.length_cons, List.length_nil] at hi hk hr ⊢
    by_cases e : k = S.st.obs.length
    · rw [if_pos e]; exact Nat.ne_of_lt (h.live i hi hr).2
    · rw [if_neg e]; exact h.bufobj i k hi (by omega) hr
  live i hi hr := by
    have := h.live i hi hr
    simp only [Sit.alloc, World.size_alloc]
    exact ⟨this.1, by omega⟩
  bufbuf := h.bufbuf
  hid b q hb := by
    obtain ⟨h1, h2, h3, h4⟩ := h.hid b q hb
    refine ⟨h1, by simp only [Sit.alloc, World.size_alloc]; omega, ?_, h4⟩
    intro k hk
    simp only [Sit.alloc, List.length_append, List.length_cons, List.length_nil] at hk ⊢
    by_cases e : k = S.st.obs.length
    · rw [if_pos e]; omega
    · rw [if_neg e]; exact h3 k (by omega)
  injc i j t cs hi hj e := by
    simp only [Sit.alloc, List.length_append, List.length_cons, List.length_nil] at hi hj e
    by_cases ei : i = S.st.obs.length <;> by_cases ej : j = S.st.obs.length
    · omega
    · rw [if_pos ei, if_neg ej] at e
      have := h.mu_lt (i := j) (by omega)
      omega
    · rw [if_neg ei, if_pos ej] at e
      have hl : i < S.st.obs.length := by
        rcases Nat.lt_trichotomy i S.st.obs.length with q | q | q
        · exact q
        · exact absurd q ei
        · rw [List.getElem?_eq_none (by simp; omega)] at hi; cases hi
      have := h.mu_lt hl
      omega
    · rw [if_neg ei, if_neg ej] at e
      have hl : i < S.st.obs.length := by
        rcases Nat.lt_trichotomy i S.st.obs.length with q | q | q
        · exact q
        · exact absurd q ei
        · rw [List.getElem?_eq_none (by simp; omega)] at hi; cases hi
      rw [List.getElem?_append_left hl] at hi
      exact h.injc i j t cs hi (by omega) e

/-- An object turned: its block alone is another. -/
def Sit.turn (S : Sit) (id : Nat) (o : AObj) (w : World) : Sit := { S with st := ⟨S.st.obs.set id o, S.st.bufs⟩, w := w }

structure Turns (w w' : World) (b : Nat) : Prop where
  os : w'.os = w.os
  tape : w'.tape = w.tape
  output : w'.output = w.output
  size : w'.heap.size = w.heap.size
  block : ∀ k, k ≠ b → w'.heap[k]? = w.heap[k]?
  shape : w'.shape? b = w.shape? b

theorem Turns.shapes {w w' : World} {b : Nat} (h : Turns w w' b) (k : Nat) : w'.shape? k = w.shape? k := by
  by_cases e : k = b
  · subst e; exact h.shape
  · simp only [World.shape?]; rw [h.block k e]

theorem Ext.turn {B : Nat} {w0 : World} {S : Sit} (h : Inv B w0 S) {id : Nat} (hid : id < S.st.obs.length) (hnd : S.st.obs[id]? ≠ some .dead) {w : World} (t : Turns S.w w (S.μ id)) (o : AObj) : Ext S (S.turn id o w) where
  size := Nat.le_of_eq t.size.symm
  shape b _ := t.shapes b
  cell a _ ho := World.cell?_of_block (w := S.w) (t.block a.block (fun e => ho (.inl ⟨id, ⟨hid, hnd⟩, e⟩)))
  own a _ ho := by
    rcases ho with ⟨i, ⟨hi, hd⟩, hb⟩ | ⟨i, hi, hb⟩ | hh
    · refine .inl ⟨i, ⟨by simpa [Sit.turn] using hi, ?_⟩, hb⟩
      by_cases e : i = id
      · rw [e]; exact hnd
      · simp only [Sit.turn] at hd
        rwa [List.getElem?_set_ne (fun q => e q.symm)] at hd
    · exact .inr (.inl ⟨i, hi, hb⟩)
    · exact .inr (.inr hh)
  hid b q hb := ⟨hb, t.block b (fun e => (h.hid b q hb).2.2.1 id hid e.symm)⟩
  obs := by simp [Sit.turn]
  bufs := Nat.le_refl _
  mu _ _ := rfl
  buf i m b _ hm := ⟨m, b, hm, .inr (.inl ⟨rfl, rfl, rfl⟩)⟩
  tau _ _ _ _ _ _ := rfl

theorem Inv.turn {B : Nat} {w0 : World} {S : Sit} (h : Inv B w0 S) {id : Nat} (hid : id < S.st.obs.length) (hnd : S.st.obs[id]? ≠ some .dead) {w : World} (t : Turns S.w w (S.μ id)) {o : AObj}
    (hO : RelO (S.turn id o w) o (S.μ id)) (hoc : ∀ t cs, o = .cells t cs → ∃ t' cs', S.st.obs[id]? = some (.cells t' cs')) : Inv B w0 (S.turn id o w) where
  below := h.below.trans ⟨t.os, t.tape, t.output, Nat.le_of_eq t.size.symm, fun k hk => t.block k (by have := h.mu_ge hid; omega)⟩
  base := by have := h.base; simp only [Sit.turn, t.size]; exact this
  obj i p hp := by
    simp only [Sit.turn] at hp ⊢
    by_cases e : i = id
    · subst e
      rw [List.getElem?_set_self (by simpa using hid)] at hp
      simp at hp; subst hp
      exact ⟨h.mu_ge hid, hO⟩
    · rw [List.getElem?_set_ne (fun q => e q.symm)] at hp
      have hi : i < S.st.obs.length := by
        rcases Nat.lt_or_ge i S.st.obs.length with q | q
        · exact q
        · rw [List.getElem?_eq_none q] at hp; cases hp
      have := h.obj i p hp
      by_cases hpd : p = .dead
      · subst hpd
        refine ⟨this.1, ?_⟩
        have h2 : S.μ i < S.w.heap.size := this.2
        show S.μ i < w.heap.size
        rw [t.size]; exact h2
      · refine ⟨this.1, this.2.mono (Ext.turn h hid hnd t o) (t.block _ (fun q => ?_))⟩
        rcases h.inj _ _ hi hid q with g | g | g
        · exact e g
        · rw [hp] at g; exact hpd (Option.some.inj g)
        · exact hnd g
  inj i j hi hj q := by
    have key : ∀ k : Nat, S.st.obs[k]? = some AObj.dead → (S.turn id o w).st.obs[k]? = some AObj.dead := by
      intro k hk
      have hne : id ≠ k := fun e => hnd (by rw [e]; exact hk)
      simp only [Sit.turn]
      rw [List.getElem?_set_ne hne]; exact hk
    rcases h.inj i j (by simpa [Sit.turn] using hi) (by simpa [Sit.turn] using hj) q with g | g | g
    · exact .inl g
    · exact .inr (.inl (key i g))
    · exact .inr (.inr (key j g))
  buf i hi j h1 h2 := by
    obtain ⟨hb, ⟨c, hc⟩, hf⟩ := h.buf i hi j h1 h2
    have hne : (S.ρ i).1 ≠ S.μ id := h.bufobj i id hi hid (.inl (Nat.lt_of_le_of_lt h1 h2))
    exact ⟨hb, ⟨c, (World.cell?_of_block (w := S.w) (a := ⟨(S.ρ i).1, j, none⟩) (t.block _ hne)).trans hc⟩,
      (World.frozen?_of_block (w := S.w) (a := ⟨(S.ρ i).1, j, none⟩) (t.block _ hne)).trans hf⟩
  froz i hi hr := by
    intro cc e lo hi' hq
    have hne : (S.ρ i).1 ≠ S.μ id := h.bufobj i id hi hid (.inl hr)
    simp only [Sit.turn] at hq
    rw [t.block _ hne] at hq
    exact h.froz i hi hr cc e lo hi' hq
  live i hi hr := by
    have := h.live i hi hr
    simp only [Sit.turn]
    exact ⟨this.1, by rw [t.size]; exact this.2⟩
  bufobj i k hi hk hr := h.bufobj i k hi (by simpa [Sit.turn] using hk) hr
  bufbuf := h.bufbuf
  hid b q hb := by
    obtain ⟨h1, h2, h3, h4⟩ := h.hid b q hb
    exact ⟨h1, by simp only [Sit.turn]; rw [t.size]; exact h2, fun k hk => h3 k (by simpa [Sit.turn] using hk), h4⟩
  injc i j ty cs hi hj e := by
    simp only [Sit.turn, List.length_set] at hi hj
    by_cases ei : id = i
    · subst ei
      rw [List.getElem?_set_self hid] at hi
      obtain ⟨t', cs', h'⟩ := hoc ty cs (Option.some.inj hi)
      exact h.injc _ j t' cs' h' hj e
    · rw [List.getElem?_set_ne ei] at hi
      exact h.injc i j ty cs hi hj e

theorem Turns.refl (w : World) (b : Nat) : Turns w w b := ⟨rfl, rfl, rfl, rfl, fun _ _ => rfl, rfl⟩
theorem Turns.trans {w w' w'' : World} {b : Nat} (h : Turns w w' b) (k : Turns w' w'' b) : Turns w w'' b :=
  ⟨k.os.trans h.os, k.tape.trans h.tape, k.output.trans h.output, k.size.trans h.size, fun i hi => (k.block i hi).trans (h.block i hi), k.shape.trans h.shape⟩
theorem shape_setCell (w : World) (a : Addr) (v : Value) (b : Nat) : (w.setCell a v).shape? b = w.shape? b := by
  by_cases e : a.block = b
  · subst e
    cases hq : w.heap[a.block]? with
    | none => simp [World.shape?, World.setCell, Array.getElem?_modify, hq]
    | some o =>
      cases o <;> simp [World.shape?, World.setCell, Array.getElem?_modify, hq]
      split <;> simp
  · simp only [World.shape?]
    rw [Below.heap_setCell _ _ _ _ (fun q => e q.symm)]
theorem Turns.setCell (w : World) (a : Addr) (v : Value) : Turns w (w.setCell a v) a.block :=
  ⟨rfl, rfl, rfl, by simp, fun k hk => Below.heap_setCell _ _ _ _ hk, shape_setCell w a v a.block⟩
theorem Turns.setObj (w : World) (r : Nat) (O : Obj) (hO : ∀ c e f, O ≠ .cells c e f) (hw : ∀ c e f, w.heap[r]? ≠ some (.cells c e f)) : Turns w { w with heap := w.heap.setIfInBounds r O } r :=
  ⟨rfl, rfl, rfl, by simp, fun k hk => by simp [Ne.symm hk], by
    have h0 : w.shape? r = none := by
      have : ∀ x, w.heap[r]? = x → (match x with | some (Obj.cells c e _) => some (e, c.size) | _ => none) = none := by
        intro x hx
        cases x with
        | none => rfl
        | some o =>
          cases o with
          | cells c e f => exact absurd hx (hw c e f)
          | _ => rfl
      exact this _ rfl
    rw [h0]
    simp only [World.shape?]
    rw [Array.getElem?_setIfInBounds, if_pos rfl]
    split
    · rename_i c e f hq
      split at hq
      · simp only [Option.some.injEq] at hq; exact absurd hq (hO c e f)
      · cases hq
    · rfl⟩

end Go.Proofs.YtboejpobmpfifaaGreatDoor.Eng
