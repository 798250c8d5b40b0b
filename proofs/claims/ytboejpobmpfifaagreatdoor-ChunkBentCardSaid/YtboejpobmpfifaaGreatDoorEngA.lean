/-
  append does in the world what the evaluator says. No condition.
-/
import Derived.Test.YtboejpobmpfifaaGreatDoorEng9
import Derived.Deep.Upon
namespace Go.Proofs.YtboejpobmpfifaaGreatDoor.Eng
open Go Go.RowKit
set_option linter.unusedSimpArgs false

section
variable {P : Program} {B : Nat} {w0 : World} {S : Sit}

/-- A buffer whose elements moved to a new row, or that is new. -/
def Sit.grown (S : Sit) (i m : Nat) (by_ : Nat × TypeId) (O : Obj) (f t : Nat) : Sit :=
  ⟨⟨S.st.obs, if i < S.st.bufs.length then S.st.bufs.set i (m, by_) else S.st.bufs ++ [(m, by_)]⟩, S.μ, fun j => if j = i then (S.w.heap.size, f, t) else S.ρ j, fun j p => if j = i ∧ pendF < by_.1 ∧ p = m then (S.w.heap.size, f, t) else S.τ j p, S.w.alloc O, S.hid⟩

theorem Ext.grown {B : Nat} {w0 : World} {S : Sit} (h : Inv B w0 S) {i : Nat} (hi : i ≤ S.st.bufs.length) {m : Nat} {by_ : Nat × TypeId} (hb : i < S.st.bufs.length → ∃ m0 by0, S.st.bufs[i]? = some (m0, by0) ∧ (m0 < m ∨ (m0 = m ∧ ¬ pendF < by0.1 ∧ pendF < by_.1))) (O : Obj) (f t : Nat) :
    Ext S (S.grown i m by_ O f t) where
  hid b q hb := ⟨hb, heap_alloc_lt _ _ _ (h.hid b q hb).2.1⟩
  size := by simp [Sit.grown]
  shape b hb := shape_alloc_lt S.w O b hb
  cell a ha _ := World.cell?_alloc_lt S.w O a ha
  own a ha ho := by
    rcases ho with ho | ⟨j, hj, h1, h2, h3⟩ | hh
    rotate_left 2
    · exact .inr (.inr hh)
    · exact .inl ho
    · simp only [Sit.grown] at hj h1 h2 h3
      by_cases e : j = i
      · subst e; rw [if_pos rfl] at h1; simp only at h1; omega
      · rw [if_neg e] at h1 h2 h3
        refine .inr (.inl ⟨j, ?_, h1, h2, h3⟩)
        split at hj
        · simpa using hj
        · simp at hj; omega
  obs := Nat.le_refl _
  bufs := by
    simp only [Sit.grown]; split
    · simp
    · simp
  mu _ _ := rfl
  buf j m' b hj hm := by
    simp only [Sit.grown] at hm ⊢
    by_cases e : j = i
    · subst e
      rw [if_pos hj] at hm
      rw [List.getElem?_set_self hj] at hm
      simp only [Option.some.injEq, Prod.mk.injEq] at hm
      obtain ⟨rfl, rfl⟩ := hm
      obtain ⟨m0, b0, h0, hlt⟩ := hb hj
      exact ⟨m0, b0, h0, hlt.imp id .inr⟩
    · rw [if_neg e]
      refine ⟨m', b, ?_, .inr (.inl ⟨rfl, rfl, rfl⟩)⟩
      split at hm
      · rw [List.getElem?_set_ne (fun q => e q.symm)] at hm; exact hm
      · rw [List.getElem?_append_left hj] at hm; exact hm
  tau j m' b hm p hp := by
    simp only [Sit.grown]
    rw [if_neg]
    rintro ⟨rfl, hf, rfl⟩
    have hj : j < S.st.bufs.length := (List.getElem?_eq_some_iff.1 hm).1
    obtain ⟨m0, b0, h0, hlt⟩ := hb hj
    rw [hm] at h0
    simp only [Option.some.injEq, Prod.mk.injEq] at h0
    obtain ⟨rfl, rfl⟩ := h0
    rcases hlt with hlt | ⟨rfl, h1, h2⟩
    · rcases hp with hp | hp <;> omega
    · rcases hp with hp | hp
      · omega
      · exact h1 hp.2

theorem grown_len {S : Sit} {i : Nat} (hi : i ≤ S.st.bufs.length) {m : Nat} {by_ : Nat × TypeId} {O : Obj} {f t j : Nat} (hj : j < (S.grown i m by_ O f t).st.bufs.length) : j < S.st.bufs.length ∨ j = i := by
  simp only [Sit.grown] at hj; split at hj
  · left; simpa using hj
  · simp at hj; omega

theorem grown_get {S : Sit} {i : Nat} (hi : i ≤ S.st.bufs.length) {m : Nat} {by_ : Nat × TypeId} {O : Obj} {f t : Nat} : (S.grown i m by_ O f t).st.bufs[i]? = some (m, by_) := by
  simp only [Sit.grown]
  split
  · rename_i h; rw [List.getElem?_set_self h]
  · rename_i h
    have : i = S.st.bufs.length := by omega
    rw [this]; simp

theorem grown_live {S : Sit} {i : Nat} (hi : i ≤ S.st.bufs.length) {m : Nat} {by_ : Nat × TypeId} {O : Obj} {f t j : Nat} (hj : j ≠ i) (h : (S.grown i m by_ O f t).live j) : S.live j := by
  rcases h with h | ⟨m', q, h, h0⟩
  · simp only [Sit.grown, if_neg hj] at h; exact .inl h
  · refine .inr ⟨m', q, ?_, h0⟩
    simp only [Sit.grown] at h
    split at h
    · rwa [List.getElem?_set_ne (fun q => hj q.symm)] at h
    · rcases Nat.lt_or_ge j S.st.bufs.length with x | x
      · rwa [List.getElem?_append_left x] at h
      · rw [List.getElem?_eq_none (by simp; omega)] at h; cases h

theorem Inv.grown (h : Inv B w0 S) {i : Nat} (hi : i ≤ S.st.bufs.length) {m : Nat} {by_ : Nat × TypeId} (hb : i < S.st.bufs.length → ∃ m0 by0, S.st.bufs[i]? = some (m0, by0) ∧ (m0 < m ∨ (m0 = m ∧ ¬ pendF < by0.1 ∧ pendF < by_.1)))
    {cc : Array Value} {e : TypeId} {f t : Nat} (ht : t ≤ cc.size) : Inv B w0 (S.grown i m by_ (.cells cc e) f t) where
  below := h.below.alloc h.base _
  base := by have := h.base; simp only [Sit.grown, World.size_alloc]; omega
  hid b q hbb := by
    obtain ⟨h1, h2, h3, h4⟩ := h.hid b q hbb
    refine ⟨h1, by simp only [Sit.grown, World.size_alloc]; omega, h3, ?_⟩
    intro j hj hr
    have hlen := grown_len hi hj
    by_cases e' : j = i
    · simp only [Sit.grown, if_pos e']; omega
    · have := h4 j (hlen.resolve_right e') (grown_live hi e' hr)
      simp only [Sit.grown, if_neg e']
      exact this
  obj j p hp := by
    have := h.obj j p hp
    exact ⟨this.1, this.2.mono (Ext.grown h hi hb _ f t) (heap_alloc_lt _ _ _ this.2.lt)⟩
  inj := h.inj
  injc := h.injc
  buf j hj k h1 h2 := by
    have hlen : j < S.st.bufs.length ∨ j = i := by
      simp only [Sit.grown] at hj; split at hj
      · left; simpa using hj
      · simp at hj; omega
    simp only [Sit.grown] at h1 h2 ⊢
    by_cases e' : j = i
    · rw [if_pos e'] at h1 h2 ⊢
      simp only at h1 h2 ⊢
      refine ⟨h.base, ?_, by simp⟩
      rw [World.cell?_alloc_new]
      exact ⟨cc[k]'(by omega), by rw [Array.getElem?_eq_getElem (by omega)]⟩
    · rw [if_neg e'] at h1 h2 ⊢
      obtain ⟨g1, ⟨c, hc⟩, g2⟩ := h.buf j (hlen.resolve_right e') k h1 h2
      have hlt : (S.ρ j).1 < S.w.heap.size := World.block_lt_of_cell? (a := ⟨(S.ρ j).1, k, none⟩) _ hc
      exact ⟨g1, ⟨c, (World.cell?_alloc_lt S.w _ ⟨(S.ρ j).1, k, none⟩ hlt).trans hc⟩,
        (World.frozen?_alloc_old S.w _ ⟨(S.ρ j).1, k, none⟩ (Nat.ne_of_lt hlt)).trans g2⟩
  froz j hj hr := by
    have hlen : j < S.st.bufs.length ∨ j = i := by
      simp only [Sit.grown] at hj; split at hj
      · left; simpa using hj
      · simp at hj; omega
    simp only [Sit.grown] at hr ⊢
    by_cases e' : j = i
    · rw [if_pos e'] at hr ⊢
      intro cc' e'' lo hi' hq
      simp only at hq
      rw [heap_alloc_new] at hq
      simp only [Option.some.injEq, Obj.cells.injEq, Prod.mk.injEq] at hq
      obtain ⟨_, _, rfl, rfl⟩ := hq
      exact ⟨Nat.le_refl _, .inr rfl⟩
    · rw [if_neg e'] at hr ⊢
      exact (h.froz j (hlen.resolve_right e') hr).of_block (heap_alloc_lt _ _ _ (h.rho_lt (hlen.resolve_right e') hr))
  live j hj hr := by
    have hlen := grown_len hi hj
    by_cases e' : j = i
    · simp only [Sit.grown, if_pos e', World.size_alloc]
      exact ⟨h.base, by omega⟩
    · have := h.live j (hlen.resolve_right e') (grown_live hi e' hr)
      simp only [Sit.grown, if_neg e', World.size_alloc]
      exact ⟨this.1, by omega⟩
  bufobj j k hj hk hr := by
    have hlen := grown_len hi hj
    by_cases e' : j = i
    · simp only [Sit.grown, if_pos e']
      have := h.mu_lt hk
      omega
    · have := h.bufobj j k (hlen.resolve_right e') hk (grown_live hi e' hr)
      simp only [Sit.grown, if_neg e']
      exact this
  bufbuf j k hj hk hne h1 h2 := by
    have hj' := grown_len hi hj
    have hk' := grown_len hi hk
    by_cases ej : j = i <;> by_cases ek : k = i
    · exact absurd (ej.trans ek.symm) hne
    · have := (h.live k (hk'.resolve_right ek) (grown_live hi ek h2)).2
      simp only [Sit.grown, if_pos ej, if_neg ek]
      omega
    · have := (h.live j (hj'.resolve_right ej) (grown_live hi ej h1)).2
      simp only [Sit.grown, if_pos ek, if_neg ej]
      omega
    · have := h.bufbuf j k (hj'.resolve_right ej) (hk'.resolve_right ek) hne (grown_live hi ej h1) (grown_live hi ek h2)
      simp only [Sit.grown, if_neg ej, if_neg ek]
      exact this

/-- A buffer whose elements went into what it had to spare. -/
def Sit.filled (S : Sit) (i m : Nat) (by_ : Nat × TypeId) (b st st' en : Nat) (news : List Value) : Sit :=
  { st := ⟨S.st.obs, S.st.bufs.set i (m, by_)⟩, μ := S.μ, ρ := fun j => if j = i then (b, st', en) else S.ρ j, τ := fun j p => if j = i ∧ pendF < by_.1 ∧ p = m then (b, st', en) else S.τ j p, w := S.w.setCells b st news, hid := S.hid }

theorem setCells_heap (b : Nat) : ∀ (vs : List Value) (o : Nat) (w : World) (k : Nat), k ≠ b → (w.setCells b o vs).heap[k]? = w.heap[k]?
  | [], _, _, _, _ => rfl
  | v :: r, o, w, k, h => by rw [World.setCells, setCells_heap b r _ _ k h]; exact Below.heap_setCell _ _ _ _ h
theorem setCells_size (b : Nat) : ∀ (vs : List Value) (o : Nat) (w : World), (w.setCells b o vs).heap.size = w.heap.size
  | [], _, _ => rfl
  | v :: r, o, w => by rw [World.setCells, setCells_size b r]; simp
theorem setCells_shape (b : Nat) : ∀ (vs : List Value) (o : Nat) (w : World) (k : Nat), (w.setCells b o vs).shape? k = w.shape? k
  | [], _, _, _ => rfl
  | v :: r, o, w, k => by rw [World.setCells, setCells_shape b r]; exact shape_setCell _ _ _ _
theorem setCells_froz (b : Nat) : ∀ (vs : List Value) (o : Nat) (w : World) (st : Nat), Froz w b st → Froz (w.setCells b o vs) b st
  | [], _, _, _, h => h
  | v :: r, o, w, st, h => by
    rw [World.setCells]
    refine setCells_froz b r _ _ st ?_
    intro cc e lo hi hq
    simp only [World.setCell, Array.getElem?_modify, if_true] at hq
    cases hw : w.heap[b]? with
    | none => rw [hw] at hq; simp at hq
    | some O =>
      rw [hw] at hq
      cases O with
      | cells c' e' f' =>
        obtain ⟨lo', hi'⟩ := f'
        simp only [Option.map_some, Option.some.injEq, Obj.cells.injEq, Prod.mk.injEq] at hq
        obtain ⟨_, rfl, rfl, rfl⟩ := hq
        exact h _ _ _ _ hw
      | _ => simp at hq
theorem setCells_below {B b : Nat} {w0 : World} (hb : B ≤ b) : ∀ (vs : List Value) (o : Nat) (w : World), Below B w0 w → Below B w0 (w.setCells b o vs)
  | [], _, _, h => h
  | v :: r, o, _, h => setCells_below hb r _ _ (h.setCell (p := ⟨b, o, none⟩) hb v)

theorem Ext.filled (h : Inv B w0 S) {i : Nat} (hi : i < S.st.bufs.length) {m0 m : Nat} {by0 by_ : Nat × TypeId} {b st st' en : Nat} (hb : S.st.bufs[i]? = some (m0, by0)) (hm : m0 < m ∨ (m0 = m ∧ ¬ pendF < by0.1 ∧ pendF < by_.1)) (hss : st ≤ st') (hρ : S.ρ i = (b, st, en))
    {news : List Value} (hn : st + news.length ≤ en) (hne : st < en) : Ext S (S.filled i m by_ b st st' en news) where
  hid k q hk := ⟨hk, setCells_heap b news st S.w k (fun e => (h.hid k q hk).2.2.2 i hi (.inl (by rw [hρ]; exact hne)) (by rw [hρ]; exact e.symm))⟩
  size := by simp only [Sit.filled, setCells_size]; exact Nat.le_refl _
  shape k _ := setCells_shape b news st S.w k
  cell a ha ho := by
    refine World.cell?_setCells_out b news st S.w a (fun h1 _ => ?_)
    rcases Nat.lt_or_ge a.off st with q | q
    · exact .inl q
    · right
      rcases Nat.lt_or_ge a.off (st + news.length) with q' | q'
      · exfalso
        exact ho (.inr (.inl ⟨i, hi, by rw [hρ]; exact ⟨h1, q, by simp only; omega⟩⟩))
      · exact q'
  own a ha ho := by
    rcases ho with ho | ⟨j, hj, h1, h2, h3⟩ | hh
    rotate_left 2
    · exact .inr (.inr hh)
    · exact .inl ho
    · simp only [Sit.filled, List.length_set] at hj h1 h2 h3
      by_cases e : j = i
      · rw [if_pos e] at h1 h2 h3
        simp only at h1 h2 h3
        exact .inr (.inl ⟨i, hi, by rw [hρ]; exact ⟨h1, by simp only; omega, h3⟩⟩)
      · rw [if_neg e] at h1 h2 h3
        exact .inr (.inl ⟨j, hj, h1, h2, h3⟩)
  obs := Nat.le_refl _
  bufs := by simp [Sit.filled]
  mu _ _ := rfl
  buf j m' b' hj hm' := by
    simp only [Sit.filled] at hm' ⊢
    by_cases e : j = i
    · subst e
      rw [List.getElem?_set_self hj] at hm'
      simp only [Option.some.injEq, Prod.mk.injEq] at hm'
      obtain ⟨rfl, rfl⟩ := hm'
      exact ⟨m0, by0, hb, hm.imp id .inr⟩
    · rw [if_neg e]
      rw [List.getElem?_set_ne (fun q => e q.symm)] at hm'
      exact ⟨m', b', hm', .inr (.inl ⟨rfl, rfl, rfl⟩)⟩
  tau j m' b' hm' p hp := by
    simp only [Sit.filled]
    rw [if_neg]
    rintro ⟨rfl, hf, rfl⟩
    rw [hm'] at hb
    simp only [Option.some.injEq, Prod.mk.injEq] at hb
    obtain ⟨rfl, rfl⟩ := hb
    rcases hm with hlt | ⟨rfl, h1, h2⟩
    · rcases hp with hp | hp <;> omega
    · rcases hp with hp | hp
      · omega
      · exact h1 hp.2

theorem filled_live {S : Sit} {i m : Nat} {by_ : Nat × TypeId} {b st st' en : Nat} {news : List Value} {j : Nat} (hj : j ≠ i) (h : (S.filled i m by_ b st st' en news).live j) : S.live j := by
  rcases h with h | ⟨m', q, h, h0⟩
  · simp only [Sit.filled, if_neg hj] at h; exact .inl h
  · refine .inr ⟨m', q, ?_, h0⟩
    simp only [Sit.filled] at h
    rwa [List.getElem?_set_ne (fun q => hj q.symm)] at h

theorem Inv.filled (h : Inv B w0 S) {i : Nat} (hi : i < S.st.bufs.length) {m0 m : Nat} {by0 by_ : Nat × TypeId} {b st st' en : Nat} (hb : S.st.bufs[i]? = some (m0, by0)) (hm : m0 < m ∨ (m0 = m ∧ ¬ pendF < by0.1 ∧ pendF < by_.1)) (hss : st ≤ st') (hρ : S.ρ i = (b, st, en))
    {news : List Value} (hn : st + news.length ≤ en) (hpos : 0 < news.length) : Inv B w0 (S.filled i m by_ b st st' en news) := by
  have hne : (S.ρ i).2.1 < (S.ρ i).2.2 := by rw [hρ]; simp only; omega
  have hB : B ≤ b := by have := (h.buf i hi _ (Nat.le_refl _) hne).1; rwa [hρ] at this
  have hE := Ext.filled h hi hb hm hss hρ hn (by omega)
  have hmu : ∀ k, k < S.st.obs.length → S.μ k ≠ b := fun k hk => by
    have := h.bufobj i k hi hk (.inl hne)
    rw [hρ] at this
    exact fun q => this q.symm
  constructor
  · exact setCells_below hB news st S.w h.below
  · have := h.base; simp only [Sit.filled, setCells_size]; exact this
  · intro j p hp
    have := h.obj j p hp
    exact ⟨this.1, this.2.mono hE (setCells_heap b news st S.w _ (hmu j (lt_of_get hp)))⟩
  · exact h.inj
  · intro j hj k h1 h2
    simp only [Sit.filled, List.length_set] at hj h1 h2 ⊢
    have hin : ∀ j, j < news.length → (S.w.cell? ⟨b, st + j, none⟩).isSome = true := fun j hj => by
      obtain ⟨_, ⟨c, hc⟩, _⟩ := h.buf i hi (st + j) (by rw [hρ]; simp only; omega) (by rw [hρ]; simp only; omega)
      rw [hρ] at hc
      simp only at hc
      rw [hc]; rfl
    have key : ∀ (b' k' : Nat), (∃ c, S.w.cell? ⟨b', k', none⟩ = some c) → (b' = b → st ≤ k') →
        ∃ c, (S.w.setCells b st news).cell? ⟨b', k', none⟩ = some c := by
      intro b' k' ⟨c, hc⟩ hout
      by_cases hq : b' = b ∧ k' < st + news.length
      · obtain ⟨rfl, hlt⟩ := hq
        have hge := hout rfl
        have := World.cell?_setCells_in b' news st S.w hin (k' - st) (by omega)
        rw [show st + (k' - st) = k' by omega] at this
        exact ⟨_, this⟩
      · refine ⟨c, ?_⟩
        rw [World.cell?_setCells_out b news st S.w ⟨b', k', none⟩ (fun q _ => .inr (by
          rcases Nat.lt_or_ge k' (st + news.length) with x | x
          · exact absurd ⟨q, x⟩ hq
          · exact x))]
        exact hc
    by_cases e : j = i
    · rw [if_pos e] at h1 h2 ⊢
      simp only at h1 h2 ⊢
      obtain ⟨_, g1, g2⟩ := h.buf i hi k (by rw [hρ]; simp only; omega) (by rw [hρ]; exact h2)
      rw [hρ] at g1 g2
      refine ⟨hB, key b k g1 (fun _ => by omega), ?_⟩
      rw [World.frozen?_setCells]; exact g2
    · rw [if_neg e] at h1 h2 ⊢
      obtain ⟨g0, g1, g2⟩ := h.buf j hj k h1 h2
      have hbb : (S.ρ j).1 ≠ b := by
        have := h.bufbuf j i hj hi e (.inl (by omega)) (.inl hne)
        rw [hρ] at this
        exact this
      refine ⟨g0, key _ k g1 (fun q => absurd q hbb), ?_⟩
      rw [World.frozen?_setCells]; exact g2
  · intro j hj hr
    simp only [Sit.filled, List.length_set] at hj hr ⊢
    by_cases e : j = i
    · rw [if_pos e]
      have := h.froz i hi hne
      rw [hρ] at this
      exact setCells_froz b news st S.w _ (this.mono hss)
    · rw [if_neg e] at hr ⊢
      have hbb : (S.ρ j).1 ≠ b := by
        have := h.bufbuf j i hj hi e (.inl hr) (.inl hne)
        rw [hρ] at this
        exact this
      exact (h.froz j hj hr).of_block (setCells_heap b news st S.w _ hbb)
  · intro j hj hr
    simp only [Sit.filled, setCells_size]
    by_cases e : j = i
    · rw [if_pos e]
      have := h.live i hi (.inl hne)
      rw [hρ] at this
      exact this
    · rw [if_neg e]
      exact h.live j (by simpa [Sit.filled] using hj) (filled_live e hr)
  · intro j k hj hk hr
    simp only [Sit.filled]
    by_cases e : j = i
    · rw [if_pos e]
      exact fun q => hmu k hk q.symm
    · rw [if_neg e]
      exact h.bufobj j k (by simpa [Sit.filled] using hj) hk (filled_live e hr)
  · intro j k hj hk hjk h1 h2
    have hj' : j < S.st.bufs.length := by simpa [Sit.filled] using hj
    have hk' : k < S.st.bufs.length := by simpa [Sit.filled] using hk
    simp only [Sit.filled]
    by_cases ej : j = i <;> by_cases ek : k = i
    · exact absurd (ej.trans ek.symm) hjk
    · rw [if_pos ej, if_neg ek]
      have := h.bufbuf i k hi hk' (fun q => ek q.symm) (.inl hne) (filled_live ek h2)
      rw [hρ] at this
      exact this
    · rw [if_pos ek, if_neg ej]
      have := h.bufbuf j i hj' hi ej (filled_live ej h1) (.inl hne)
      rw [hρ] at this
      exact this
    · rw [if_neg ej, if_neg ek]
      exact h.bufbuf j k hj' hk' hjk (filled_live ej h1) (filled_live ek h2)
  · intro k q hk
    obtain ⟨h1, h2, h3, h4⟩ := h.hid k q hk
    refine ⟨h1, by simp only [Sit.filled, setCells_size]; exact h2, h3, ?_⟩
    intro j hj hr
    simp only [Sit.filled]
    by_cases e : j = i
    · rw [if_pos e]
      have := h4 i hi (.inl hne)
      rw [hρ] at this
      exact this
    · rw [if_neg e]
      exact h4 j (by simpa [Sit.filled] using hj) (filled_live e hr)
  · exact h.injc

theorem growBy_le {need : Nat} : ∀ (r c : Nat), 256 ≤ c → c ≤ 2 * need → Builtin.growBy need r c ≤ 2 * need
  | 0, c, _, h => by simpa [Builtin.growBy] using h
  | r + 1, c, h0, h => by
    simp only [Builtin.growBy]
    split
    · exact h
    · exact growBy_le r _ (by omega) (by omega)

/-- What Go's own growth asks for is no more than memory bears. -/
theorem nextslicecap_fits {len cap n by_ : Nat} (hg : cap < len + n) (h : (len + n) * by_ ≤ room) : Builtin.nextslicecap (len + n) cap * by_ ≤ 281474976710656 := by
  have hroom : room = 140737488355328 := by decide
  rw [hroom] at h
  have mul2 : ∀ a : Nat, 2 * a * by_ = 2 * (a * by_) := fun a => Nat.mul_assoc 2 a by_
  have hcap : cap * by_ ≤ (len + n) * by_ := Nat.mul_le_mul_right _ (by omega)
  unfold Builtin.nextslicecap
  split
  · omega
  · split
    · rw [mul2]; omega
    · have hle := growBy_le (need := len + n) 4 cap (by omega) (by omega)
      calc Builtin.growBy (len + n) 4 cap * by_ ≤ 2 * (len + n) * by_ := Nat.mul_le_mul_right _ hle
        _ = 2 * ((len + n) * by_) := mul2 _
        _ ≤ 281474976710656 := by omega

theorem len_fits {len n by_ : Nat} (hb0 : 0 < by_) (h : (len + n) * by_ ≤ room) : ((len + n : Nat) : Int) ≤ 9223372036854775807 := by
  have hroom : room = 140737488355328 := by decide
  rw [hroom] at h
  have h2 : len + n ≤ (len + n) * by_ := Nat.le_mul_of_pos_right _ hb0
  omega

theorem asBytes_rel : ∀ l : List UInt8, RelL S (asBytes l) (l.map fun b => Value.int .u8 b.toNat)
  | [] => .nil
  | _ :: l => .cons _ _ _ _ (.int _ _) (asBytes_rel l)

theorem asBytes_flat : ∀ l : List UInt8, (asBytes l).flatMap V.cells = asBytes l
  | [] => rfl
  | b :: l => by
    have := asBytes_flat l
    simp only [asBytes, List.map_cons, List.flatMap_cons] at this ⊢
    rw [this]
    rfl

/-- What is appended, in the world. -/
theorem src_ok {sz : Nat} {tx : TypeId} {str : Bool} (hty : appTy P sz tx = some str) {y : V} {d : Value} (hy : Rel S y d) {ys : List V} (he : appSrc str y = some ys) (hf : fits sz ys = true) :
    ∃ news, Src P sz tx d ys.length news S.w ∧ RelL S (ys.flatMap V.cells) news ∧ (∀ v ∈ ys.flatMap V.cells, v.one = true) ∧ (∀ x ∈ ys, x.cells.length = sz) ∧
      Builtin.lenOf d = Sem.pure ys.length ∧ ∃ dd, P.underlying tx = some dd ∧ ∀ k, dd ≠ .int k := by
  have hk : (str = false ∧ ∃ e', P.underlying tx = some (.slice e')) ∨ (str = true ∧ P.underlying tx = some .string ∧ sz = 1) := by
    unfold appTy at hty
    split at hty
    · rename_i e' hu; simp at hty; exact .inl ⟨hty, e', hu⟩
    · rename_i hu
      split at hty
      · rename_i h1; simp at hty; exact .inr ⟨hty, hu, h1⟩
      · cases hty
    · cases hty
  rcases hk with ⟨rfl, e', hu⟩ | ⟨rfl, hu, rfl⟩
  · cases y with
    | sl o xs =>
      simp only [appSrc, Option.some.injEq] at he
      subst he
      have hd : ∃ dd, P.underlying tx = some dd ∧ ∀ k, dd ≠ .int k := ⟨_, hu, by intro k q; cases q⟩
      have hnil : xs = [] → d = .slice none 0 0 → ∃ news, Src P sz tx d xs.length news S.w ∧ RelL S (xs.flatMap V.cells) news ∧ (∀ v ∈ xs.flatMap V.cells, v.one = true) ∧
          (∀ x ∈ xs, x.cells.length = sz) ∧ Builtin.lenOf d = Sem.pure xs.length ∧ ∃ dd, P.underlying tx = some dd ∧ ∀ k, dd ≠ .int k := by
        rintro rfl rfl
        exact ⟨[], Src.ofNil S.w hu 0, .nil, by simp, by simp, rfl, hd⟩
      cases hy with
      | slNil => exact hnil rfl rfl
      | slNo => exact hnil rfl rfl
      | slNew a => exact ⟨[], Src.ofSlice S.w hu a 0 0 [] (by simp) (by simp) (by simp), .nil, by simp, by simp, rfl, hd⟩
      | slEmp a => exact ⟨[], Src.ofSlice S.w hu a 0 0 [] (by simp) (by simp) (by simp), .nil, by simp, by simp, rfl, hd⟩
      | slBuf i hi => exact hnil rfl rfl
      | slAt _ _ b off cap sz' h1 h2 h3 h4 =>
        obtain ⟨cs, g1, g2, g3⟩ := h3.values
        have hsz : ∀ x ∈ xs, x.cells.length = sz := by
          intro x hx
          have h0 : xs ≠ [] := fun q => by rw [q] at hx; cases hx
          rw [fits_eq hf h2 h0]
          exact h2 x hx
        have hlen : cs.length = xs.length * sz := by rw [← g1.length, flat_length xs hsz]
        have hcell : ∀ j u, cs[j]? = some u → S.w.cell? ((⟨b, off, none⟩ : Addr).add j) = some u := fun j u hu => by
          rw [Addr.add_at]; exact (g2 j u hu).1
        exact ⟨cs, Src.ofSlice S.w hu ⟨b, off, none⟩ xs.length cap cs hlen hcell g3, g1, h3.all_one, hsz, rfl, hd⟩
    | _ => cases he
  · cases y with
    | str s =>
      simp only [appSrc, Option.some.injEq] at he
      subst he
      rw [hy.str_inv]
      have hlen : (asBytes s).length = s.length := by simp [asBytes]
      have h1c : ∀ x ∈ asBytes s, x.cells.length = 1 ∧ x.one = true := by
        intro x hx
        simp only [asBytes, List.mem_map] at hx
        obtain ⟨b, _, rfl⟩ := hx
        exact ⟨rfl, rfl⟩
      refine ⟨s.map fun b => Value.int .u8 b.toNat, ?_, ?_, ?_, fun x hx => (h1c x hx).1, ?_, _, hu, by intro k q; cases q⟩
      · rw [hlen]; exact Src.ofString (P := P) S.w hu ⟨s.toArray⟩
      · rw [asBytes_flat]; exact asBytes_rel s
      · rw [asBytes_flat]; exact fun v hv => (h1c v hv).2
      · rw [hlen]; rfl
    | _ => cases he

theorem grownCap_ge (w : World) (need old : Nat) (e : TypeId) : need ≤ grownCap w need old e := by
  simp only [grownCap, Question.cut]
  exact Nat.le_add_right _ _

theorem zeroCells_size (z : Array Value) (n : Nat) : (Builtin.zeroCells z n).size = n * z.size := by simp [Builtin.zeroCells]

/-- The new row's elements read as what was there, and what was appended. -/
theorem row_relC {S' : Sit} {b : Nat} {cc : List Value} {e : TypeId} {vs : List V} {n : Nat} (hh : S'.w.heap[b]? = some (.cells cc.toArray e (0, 0)))
    (hl : RelL S' vs (cc.take n)) (h1 : ∀ v ∈ vs, v.one = true) (ho : ∀ j, j < n → ¬ S'.own ⟨b, j, none⟩) : RelC S' vs b 0 := by
  refine RelC.of hl h1 ?_
  intro j c hj
  rw [List.getElem?_take] at hj
  split at hj
  · rename_i hjn
    rw [Nat.zero_add]
    exact ⟨by rw [cell_of_heap hh]; exact hj, ho j hjn⟩
  · cases hj

/-- THE GROWTH: where what is asked for is no more than memory bears, a new row. -/
theorem grow_ok (hI : Inv B w0 S) {t tx ty e : TypeId} {i : TypeInfo} {zc : Value} (ht : P.underlying t = some (.slice e)) (hi : P.info? e = some i) (hz : i.zero = some zc)
    (hzs : zc.cells.size = i.size) (_hb1 : i.bytes ≤ 2 ^ 20) (hb0 : 0 < i.bytes) (_hs0 : 0 < i.size)
    {str : Bool} (hty : appTy P i.size tx = some str) {y : V} {d : Value} (hy : Rel S y d) {ys : List V} (hsrc : appSrc str y = some ys) (hf : fits i.size ys = true) (_hys : 0 < ys.length)
    {xs : List V} {base : Option Addr} {cap : Nat} {olds : List Value} (hold : (Builtin.firstCells i.size xs.length (.slice base xs.length cap)).run P S.w.drew = .ok olds.toArray S.w.drew)
    (hor : RelL S (xs.flatMap V.cells) olds) (ho1 : ∀ v ∈ xs.flatMap V.cells, v.one = true) (hosz : ∀ x ∈ xs, x.cells.length = i.size)
    (hl : xs.length ≤ cap) (hg : cap < xs.length + ys.length) (hbound : (xs.length + ys.length) * i.bytes ≤ room)
    {bi : Nat} (hbi : bi ≤ S.st.bufs.length) (hbm : bi < S.st.bufs.length → S.st.bufs[bi]? = some (xs.length, i.bytes, e)) :
    ∃ S' r, (Builtin.append_ #[t, tx] ty #[.slice base xs.length cap, d]).run P S.w = .ok r S'.w ∧
      S'.st = ⟨S.st.obs, if bi < S.st.bufs.length then S.st.bufs.set bi (xs.length + ys.length, i.bytes, e) else S.st.bufs ++ [(xs.length + ys.length, i.bytes, e)]⟩ ∧
      Inv B w0 S' ∧ Ext S S' ∧ Rel S' (.sl (.buf bi) (xs ++ ys)) r := by
  obtain ⟨news, hS, hnr, hn1, hnsz, hlen, dd, hdd, hdi⟩ := src_ok hty hy hsrc hf
  have hfit := nextslicecap_fits hg hbound
  have h63 := len_fits hb0 hbound
  have hrun := run_append_grow_src S.w t tx ty e i zc ht hi hz base xs.length cap olds hold d ys.length news hS hg h63 hfit
  · have hge := grownCap_ge S.w (xs.length + ys.length) cap e
    let nc := grownCap S.w (xs.length + ys.length) cap e
    have hnc : nc = grownCap S.w (xs.length + ys.length) cap e := rfl
    rw [← hnc] at hrun hge
    have hol : olds.length = xs.length * i.size := by rw [← hor.length, flat_length xs hosz]
    have hnl : news.length = ys.length * i.size := by rw [← hnr.length, flat_length ys hnsz]
    let cc : List Value := olds ++ news ++ (Builtin.zeroCells zc.cells (nc - (xs.length + ys.length))).toList
    have hcc : (olds ++ news).toArray ++ Builtin.zeroCells zc.cells (nc - (xs.length + ys.length)) = cc.toArray := by
      apply Array.ext'; simp [cc]
    have hccl : cc.length = nc * i.size := by
      have : (Builtin.zeroCells zc.cells (nc - (xs.length + ys.length))).toList.length = (nc - (xs.length + ys.length)) * i.size := by
        rw [Array.length_toList, zeroCells_size, hzs]
      simp only [cc, List.length_append, this, hol, hnl]
      rw [← Nat.add_mul, ← Nat.add_mul]
      congr 1
      omega
    have hb : bi < S.drew.st.bufs.length → ∃ m0 by0, S.drew.st.bufs[bi]? = some (m0, by0) ∧ (m0 < xs.length + ys.length ∨ (m0 = xs.length + ys.length ∧ ¬ pendF < by0.1 ∧ pendF < (i.bytes, e).1)) := fun h => ⟨xs.length, _, hbm h, .inl (by omega)⟩
    have hE := (Ext.drew S).trans (Ext.grown (S := S.drew) hI.drew hbi hb (.cells cc.toArray e) ((xs.length + ys.length) * i.size) (nc * i.size))
    have hI' := (hI.drew).grown hbi hb (cc := cc.toArray) (e := e) (f := (xs.length + ys.length) * i.size) (t := nc * i.size) (by simp [hccl])
    refine ⟨_, .slice (some ⟨S.w.heap.size, 0, none⟩) (xs.length + ys.length) nc, ?_, rfl, hI', hE, ?_⟩
    · rw [hrun, hcc]; rfl
    · have hlen' : (xs ++ ys).length = xs.length + ys.length := by simp
      have hvl : Value.slice (some ⟨S.w.heap.size, 0, none⟩) (xs.length + ys.length) nc = Value.slice (some ⟨S.w.heap.size, 0, none⟩) (xs ++ ys).length nc := by rw [hlen']
      rw [hvl]
      refine .slAt (.buf bi) (xs ++ ys) S.w.heap.size 0 nc i.size (by rw [hlen']; exact hge) ?_ ?_ ?_
      · intro x hx
        rcases List.mem_append.1 hx with hx | hx
        · exact hosz x hx
        · exact hnsz x hx
      · have hheap : (S.drew.grown bi (xs.length + ys.length) (i.bytes, e) (.cells cc.toArray e) ((xs.length + ys.length) * i.size) (nc * i.size)).w.heap[S.w.heap.size]? =
            some (.cells cc.toArray e (0, 0)) := heap_alloc_new S.w.drew _
        refine row_relC (n := (xs.length + ys.length) * i.size) hheap ?_ ?_ ?_
        · have htake : cc.take ((xs.length + ys.length) * i.size) = olds ++ news := by
            have : (olds ++ news).length = (xs.length + ys.length) * i.size := by
              rw [List.length_append, hol, hnl, Nat.add_mul]
            rw [← this]
            exact List.take_left
          rw [htake, List.flatMap_append]
          exact (hor.mono hE).append (hnr.mono hE)
        · intro v hv
          rw [List.flatMap_append] at hv
          rcases List.mem_append.1 hv with hv | hv
          · exact ho1 v hv
          · exact hn1 v hv
        · intro j hj ho
          rcases ho with ⟨k, hk, hb'⟩ | ⟨k, hk, hb', h2, h3⟩ | hh
          rotate_left 2
          · obtain ⟨q0, hh, _⟩ := hh
            have hq : S.w.heap.size < S.w.heap.size := (hI.hid _ q0 hh).2.1
            omega
          · have := hI.mu_lt (i := k) hk.1
            simp only [Sit.grown, Sit.drew] at hb'
            omega
          · have hk₀ := hk
            simp only [Sit.grown, Sit.drew] at hb' h2 h3
            by_cases ek : k = bi
            · rw [if_pos ek] at h2; simp only at h2; omega
            · rw [if_neg ek] at hb' h2 h3
              have hk' : k < S.st.bufs.length := (grown_len (S := S.drew) hbi hk₀).resolve_right ek
              have := hI.rho_lt hk' (by omega)
              omega
      · refine ⟨xs.length + ys.length, (i.bytes, e), ?_, by rw [hlen']; exact Nat.le_refl _, fun _ _ => ⟨by rw [hlen']; omega, hb0, rfl, ⟨cc.toArray.size, ?_⟩, ?_⟩⟩
        · exact grown_get (S := S.drew) hbi
        · have := heap_alloc_new S.w.drew (.cells cc.toArray e)
          have h2 : (S.drew.w.alloc (.cells cc.toArray e)).heap[S.w.heap.size]? = some (.cells cc.toArray e) := this
          simp only [Sit.grown, World.shape?]
          rw [h2]
        · simp only [Sit.grown, Sit.drew, if_true, hlen', Nat.zero_add]
          rfl

theorem append_ok (hI : Inv B w0 S) {t tx ty e : TypeId} {sz by_ : Nat} (het : elemOf P t = some (e, sz, by_)) (hzz : zeroSz P e = some sz) (hb1 : by_ ≤ 2 ^ 20) (hb0 : 0 < by_) (hs0 : 0 < sz)
    {str : Bool} (hty : appTy P sz tx = some str) {x y v : V} {c d : Value} (hx : Rel S x c) (hy : Rel S y d) {s' : St} (he : evApp str sz (by_, e) x y S.st = some (v, s')) :
    ∃ S' r, (Builtin.append_ #[t, tx] ty #[c, d]).run P S.w = .ok r S'.w ∧ S'.st = s' ∧ Inv B w0 S' ∧ Ext S S' ∧ Rel S' v r := by
  have hu : P.underlying t = some (.slice e) ∧ ∃ i, P.info? e = some i ∧ i.size = sz ∧ i.bytes = by_ := by
    unfold elemOf at het
    split at het
    · rename_i e' h'
      simp only [Option.map_eq_some_iff] at het
      obtain ⟨i, hi, h2⟩ := het
      simp only [Prod.mk.injEq] at h2
      obtain ⟨rfl, rfl, rfl⟩ := h2
      exact ⟨h', i, hi, rfl, rfl⟩
    · cases het
  obtain ⟨hu, i, hi, rfl, rfl⟩ := hu
  have hunf : (i.bytes, e).1 < pendF := by
    have : pendF = 1099511627776 := rfl
    have : (2 : Nat) ^ 20 = 1048576 := by decide
    simp only
    omega
  have hz : ∃ zc, i.zero = some zc ∧ zc.cells.size = i.size := by
    simp only [zeroSz, hi, Option.bind_some, Option.map_eq_some_iff] at hzz
    exact hzz
  obtain ⟨zc, hz, hzs⟩ := hz
  unfold evApp at he
  split at he
  · rename_i o xs ys hsrc
    split at he
    · rename_i h0
      simp only [Option.some.injEq, Prod.mk.injEq] at he
      obtain ⟨rfl, rfl⟩ := he
      have hS0 : Src P i.size tx d 0 [] S.w := by
        have hf : fits i.size ys = true := by rw [List.eq_nil_of_length_eq_zero h0]; rfl
        obtain ⟨news, hS, hnr, _⟩ := src_ok hty hy hsrc hf
        have hy0 := List.eq_nil_of_length_eq_zero h0
        subst hy0
        cases hnr
        exact hS
      have hrun : ∀ (a : Option Addr) (l cap : Nat), l ≤ cap → c = .slice a l cap → (Builtin.append_ #[t, tx] ty #[c, d]).run P S.w = .ok c S.w := by
        rintro a l cap hl rfl
        exact run_append_nothing S.w t tx ty e i hu hi a l cap hl d hS0
      refine ⟨S, c, ?_, rfl, hI, Ext.refl S, hx⟩
      cases hx with
      | slNil => exact hrun _ _ _ (Nat.le_refl _) rfl
      | slNo => exact hrun _ _ _ (Nat.le_refl _) rfl
      | slNew a => exact hrun _ _ _ (Nat.le_refl _) rfl
      | slEmp a => exact hrun _ _ _ (Nat.le_refl _) rfl
      | slBuf i hi => exact hrun _ _ _ (Nat.le_refl _) rfl
      | slAt _ _ b off cap sz h1 h2 h3 h4 => exact hrun _ _ _ h1 rfl
    · rename_i h0
      split at he
      · rename_i hcond
        obtain ⟨hfx, hfy, hbound⟩ := hcond
        have hys : 0 < ys.length := by omega
        cases o with
        | no => cases he
        | nil =>
          simp only at he
          split at he
          · rename_i hx0
            simp only [Option.some.injEq, Prod.mk.injEq] at he
            obtain ⟨rfl, rfl⟩ := he
            have hxs := List.eq_nil_of_length_eq_zero hx0
            subst hxs
            cases hx with
            | slNil =>
              have := grow_ok (ty := ty) hI hu hi hz hzs hb1 hb0 hs0 hty hy hsrc hfy hys (xs := []) (base := none) (cap := 0) (olds := [])
                (run_firstCells_none S.w.drew i.size 0 0 0) .nil (by simp) (by simp) (by simp) (by simpa using hys) (by simpa using hbound)
                (bi := S.st.bufs.length) (Nat.le_refl _) (fun h => by omega)
              simpa using this
            | slAt _ _ _ _ _ _ _ _ _ h4 => exact h4.elim
          · cases he
        | emp =>
          simp only at he
          split at he
          · rename_i hx0
            simp only [Option.some.injEq, Prod.mk.injEq] at he
            obtain ⟨rfl, rfl⟩ := he
            have hxs := List.eq_nil_of_length_eq_zero hx0
            subst hxs
            cases hx with
            | slNew ad =>
              have := grow_ok (ty := ty) hI hu hi hz hzs hb1 hb0 hs0 hty hy hsrc hfy hys (xs := []) (base := some ad) (cap := 0) (olds := [])
                (run_firstCells_some S.w.drew i.size 0 ad 0 0 [] (by simp) (by simp)) .nil (by simp) (by simp) (by simp) (by simpa using hys) (by simpa using hbound)
                (bi := S.st.bufs.length) (Nat.le_refl _) (fun h => by omega)
              simpa using this
            | slAt _ _ _ _ _ _ _ _ _ h4 => exact h4.elim
          · cases he
        | buf bi =>
          simp only at he
          split at he
          · rename_i hbuf
            simp only [Option.some.injEq, Prod.mk.injEq] at he
            obtain ⟨rfl, rfl⟩ := he
            have hbl := lt_of_get hbuf
            have hgrow := fun (base : Option Addr) (cap : Nat) (olds : List Value) h1 h2 h3 h4 h5 h7 =>
              grow_ok (ty := ty) hI hu hi hz hzs hb1 hb0 hs0 hty hy hsrc hfy hys (xs := xs) (base := base) (cap := cap) (olds := olds) h1 h2 h3 h4 h5 h7 hbound
                (bi := bi) (Nat.le_of_lt hbl) (fun _ => hbuf)
            rw [if_pos hbl] at hgrow
            cases hx with
            | slBuf _ _ =>
              exact hgrow none 0 [] (run_firstCells_none S.w.drew i.size 0 0 0) .nil (by simp) (by simp) (by simp) (by simpa using hys)
            | slAt _ _ b off cap sz h1 h2 h3 h4 =>
              obtain ⟨m, by', hm, hn, hk⟩ := h4
              rw [hbuf] at hm
              simp only [Option.some.injEq, Prod.mk.injEq] at hm
              obtain ⟨rfl, rfl⟩ := hm
              obtain ⟨hpos, _, hoff0, ⟨ksh, hksh⟩, hρ⟩ := hk rfl hunf
              have hne : xs ≠ [] := fun q => by rw [q] at hpos; simp at hpos
              have hsz := fits_eq hfx h2 hne
              subst hsz
              obtain ⟨olds, g1, g2, g3⟩ := h3.values
              have hol : olds.length = xs.length * i.size := by rw [← g1.length, flat_length xs h2]
              by_cases hfit : xs.length + ys.length ≤ cap
              · obtain ⟨news, hS, hnr, hn1, hnsz, _⟩ := src_ok hty hy hsrc hfy
                have hnl : news.length = ys.length * i.size := by rw [← hnr.length, flat_length ys hnsz]
                have hend : off + xs.length * i.size + news.length ≤ off + cap * i.size := by
                  rw [hnl, Nat.add_assoc, ← Nat.add_mul]
                  exact Nat.add_le_add_left (Nat.mul_le_mul_right _ hfit) _
                have hnpos : 0 < news.length := by rw [hnl]; exact Nat.mul_pos hys hs0
                have hspare := fun j (hj : j < news.length) => hI.buf bi hbl (off + xs.length * i.size + j) (by rw [hρ]; simp only; omega) (by rw [hρ]; simp only; omega)
                rw [hρ] at hspare
                have hrun := run_append_room_src (P := P) S.w t tx ty e i hu hi b off xs.length cap d ys.length news hS hfit
                  (fun j hj => by obtain ⟨_, ⟨c, hc⟩, _⟩ := hspare j hj; simp only at hc; rw [hc]; rfl) (fun j hj => (hspare j hj).2.2)
                have hlt : xs.length < xs.length + ys.length := by omega
                have hE := Ext.filled (by_ := (i.bytes, e)) (st' := off + xs.length * i.size + news.length) hI hbl hbuf (.inl hlt) (Nat.le_add_right _ _) hρ hend (by omega)
                have hI' := hI.filled (by_ := (i.bytes, e)) (st' := off + xs.length * i.size + news.length) hbl hbuf (.inl hlt) (Nat.le_add_right _ _) hρ hend hnpos
                refine ⟨_, .slice (some ⟨b, off, none⟩) (xs.length + ys.length) cap, ?_, rfl, hI', hE, ?_⟩
                · exact hrun
                · have hlen' : (xs ++ ys).length = xs.length + ys.length := by simp
                  have hvl : Value.slice (some ⟨b, off, none⟩) (xs.length + ys.length) cap = Value.slice (some ⟨b, off, none⟩) (xs ++ ys).length cap := by rw [hlen']
                  rw [hvl]
                  refine .slAt (.buf bi) (xs ++ ys) b off cap i.size (by rw [hlen']; exact hfit) ?_ ?_ ?_
                  · intro x hx
                    rcases List.mem_append.1 hx with hx | hx
                    · exact h2 x hx
                    · exact hnsz x hx
                  · rw [List.flatMap_append]
                    refine (h3.mono hE).append ?_
                    rw [flat_length xs h2]
                    refine RelC.of (hnr.mono hE) hn1 ?_
                    intro j c hj
                    have hjl := lt_of_get hj
                    refine ⟨?_, ?_⟩
                    · have := World.cell?_setCells_in b news (off + xs.length * i.size) S.w (fun j hj => by obtain ⟨_, ⟨c, hc⟩, _⟩ := hspare j hj; simp only at hc; rw [hc]; rfl) j hjl
                      rw [List.getElem?_eq_getElem hjl] at hj
                      exact this.trans hj
                    · intro ho
                      have hne' : (S.ρ bi).2.1 < (S.ρ bi).2.2 := by rw [hρ]; simp only; omega
                      rcases ho with ⟨k, hk', hb'⟩ | ⟨k, hk', hb', q2, q3⟩ | hh
                      rotate_left 2
                      · obtain ⟨q0, hh, _⟩ := hh
                        have := (hI.hid _ q0 hh).2.2.2 bi hbl (.inl hne')
                        rw [hρ] at this
                        exact this rfl
                      · have := hI.bufobj bi k hbl hk'.1 (.inl hne')
                        rw [hρ] at this
                        exact this hb'
                      · simp only [Sit.filled, List.length_set] at hk' hb' q2 q3
                        by_cases ek : k = bi
                        · rw [if_pos ek] at q2; simp only at q2; omega
                        · rw [if_neg ek] at hb' q2 q3
                          have := hI.bufbuf k bi hk' hbl ek (.inl (by omega)) (.inl hne')
                          rw [hρ] at this
                          exact this hb'.symm
                  · refine ⟨xs.length + ys.length, (i.bytes, e), ?_, by rw [hlen']; exact Nat.le_refl _, fun _ _ => ⟨by rw [hlen']; omega, hb0, hoff0, ⟨ksh, (hE.shape b (shape_lt hksh)).trans hksh⟩, ?_⟩⟩
                    · simp only [Sit.filled]
                      rw [List.getElem?_set_self hbl]
                    · simp only [Sit.filled, if_true, hlen', hnl]
                      rw [Nat.add_mul, Nat.add_assoc]
              · have hcell : ∀ j u, olds[j]? = some u → S.w.cell? ((⟨b, off, none⟩ : Addr).add j) = some u := fun j u hu => by
                  rw [Addr.add_at]; exact (g2 j u hu).1
                exact hgrow (some ⟨b, off, none⟩) cap olds (run_firstCells_some S.w.drew i.size xs.length ⟨b, off, none⟩ xs.length cap olds hol (by simpa using hcell)) g1 h3.all_one h2 h1 (by omega)
          · cases he
      · cases he
  · cases he

end
end Go.Proofs.YtboejpobmpfifaaGreatDoor.Eng
