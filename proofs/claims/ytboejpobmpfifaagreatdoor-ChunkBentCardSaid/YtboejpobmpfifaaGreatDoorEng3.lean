/-
  What an abstract value is worth in a world; what a step may do to a world; the values that were there stay worth what they were. No condition.
-/
import Derived.Test.YtboejpobmpfifaaGreatDoorEng2
import Derived.Deep.AppendSrc
import Derived.Deep.MidRow
import Derived.Laws.CopyRow
import Derived.Room.AppendAsks
import Derived.MapKept
import Derived.Laws.StructEq
namespace Go.Proofs.YtboejpobmpfifaaGreatDoor.Eng
open Go Go.RowKit

structure Sit where
  st : St
  μ : Nat → Nat
  ρ : Nat → Nat × Nat × Nat
  /-- where a buffer stood when its element number so was told later -/
  τ : Nat → Nat → Nat × Nat × Nat
  w : World
  /-- blocks that are somebody's, and not looked at; their cells that are so -/
  hid : Nat → (Nat → Prop) → Prop

/-- An object that is there, and not dead. -/
def Sit.alive (S : Sit) (i : Nat) : Prop := i < S.st.obs.length ∧ S.st.obs[i]? ≠ some .dead

/-- The cells that may be written: objects, and what growing buffers have to spare. -/
def Sit.own (S : Sit) (a : Addr) : Prop :=
  (∃ i, S.alive i ∧ a.block = S.μ i) ∨
  (∃ i, i < S.st.bufs.length ∧ a.block = (S.ρ i).1 ∧ (S.ρ i).2.1 ≤ a.off ∧ a.off < (S.ρ i).2.2) ∨ ∃ q, S.hid a.block q ∧ q a.off

def OwnOk (S : Sit) (o : Own) (n b off cap sz : Nat) : Prop :=
  match o with
  | .no => True
  | .nil => False
  | .emp => False
  | .buf i => ∃ m by_, S.st.bufs[i]? = some (m, by_) ∧ n ≤ m ∧
      (m = n → by_.1 < pendF → 0 < n ∧ 0 < by_.1 ∧ off = 0 ∧ (∃ k, S.w.shape? b = some (by_.2, k)) ∧ S.ρ i = (b, off + n * sz, off + cap * sz))

mutual
inductive Rel (S : Sit) : V → Value → Prop
  | junk (c : Value) : Rel S .junk c
  | bool (b : Bool) : Rel S (.bool b) (.bool b)
  | int (k : IntKind) (n : Int) : Rel S (.int k n) (.int k n)
  | str (l : List UInt8) : Rel S (.str l) (.string ⟨l.toArray⟩)
  | nilF : Rel S .nilF .nilFunc
  | nilI : Rel S .nilI .nilIface
  | pnil : Rel S .pnil (.pointer none)
  | mnil : Rel S .mnil (.map none)
  | fn (f : Fn) (xs ys : List V) (cx cy : List Value) : RelL S xs cx → RelL S ys cy → Rel S (.fn f xs ys) (.func f cx.toArray cy.toArray)
  | slNil : Rel S (.sl .nil []) (.slice none 0 0)
  | slNo : Rel S (.sl .no []) (.slice none 0 0)
  | slNew (a : Addr) : Rel S (.sl .emp []) (.slice (some a) 0 0)
  | slEmp (a : Addr) : Rel S (.sl .no []) (.slice (some a) 0 0)
  | slBuf (i : Nat) : i < S.st.bufs.length → Rel S (.sl (.buf i) []) (.slice none 0 0)
  | slAt (o : Own) (xs : List V) (b off cap sz : Nat) : xs.length ≤ cap → (∀ x ∈ xs, x.cells.length = sz) →
      RelC S (xs.flatMap V.cells) b off → OwnOk S o xs.length b off cap sz → Rel S (.sl o xs) (.slice (some ⟨b, off, none⟩) xs.length cap)
  | msl (id sz off len cap : Nat) (t : TypeId) : id < S.st.obs.length → len ≤ cap → S.w.shape? (S.μ id) = some (t, off + cap * sz) →
      Rel S (.msl id sz off len) (.slice (some ⟨S.μ id, off, none⟩) len cap)
  | agg (cs : List V) (cc : List Value) : RelL S cs cc → Rel S (.agg cs) (.agg cc.toArray)
  | tup (cs : List V) (cc : List Value) : RelL S cs cc → Rel S (.tup cs) (.tuple cc.toArray)
  | ptr (id off : Nat) : id < S.st.obs.length → Rel S (.ptr id off) (.pointer (some ⟨S.μ id, off, none⟩))
  | ept (cs : List V) (b off : Nat) : RelC S cs b off → Rel S (.ept cs) (.pointer (some ⟨b, off, none⟩))
  | map (id : Nat) : id < S.st.obs.length → Rel S (.map id) (.map (some (S.μ id)))
  | itr (id : Nat) : id < S.st.obs.length → Rel S (.itr id) (.pointer (some ⟨S.μ id, 0, none⟩))
  | ifc (t : TypeId) (v : V) (c : Value) : Rel S v c → Rel S (.ifc t v) (.iface t c)
  | dat (i : Nat) (xs : List V) (b off cap sz : Nat) : xs.length ≤ cap → (∀ x ∈ xs, x.cells.length = sz) → RelC S (xs.flatMap V.cells) b off → OwnOk S (.buf i) xs.length b off cap sz →
      Rel S (.dat i xs) (.pointer (some ⟨b, off, none⟩))
  | slx (i sz : Nat) (xs : List V) (b cap m : Nat) (by_ : Nat × TypeId) : xs.length + 1 ≤ cap → 0 < sz → (∀ x ∈ xs, x.cells.length = sz) → RelC S (xs.flatMap V.cells) b 0 →
      S.st.bufs[i]? = some (m, by_) → (xs.length < m ∨ (xs.length = m ∧ pendF < by_.1 ∧ S.ρ i = S.τ i xs.length ∧ ∃ k, S.w.shape? (S.τ i xs.length).1 = some (by_.2, k))) → S.τ i xs.length = (b, xs.length * sz, cap * sz) → Rel S (.slx i sz xs) (.slice (some ⟨b, 0, none⟩) (xs.length + 1) cap)
  | spp (i sz n m : Nat) (by_ : Nat × TypeId) : S.st.bufs[i]? = some (m, by_) → (n < m ∨ (n = m ∧ pendF < by_.1 ∧ S.ρ i = S.τ i n ∧ (S.τ i n).2.1 = n * sz ∧ n * sz + sz ≤ (S.τ i n).2.2 ∧ 0 < sz ∧ ∃ k, S.w.shape? (S.τ i n).1 = some (by_.2, k))) →
      Rel S (.spp i sz n) (.pointer (some ⟨(S.τ i n).1, (S.τ i n).2.1, none⟩))
  | epz (i sz n : Nat) (cs : List V) (m : Nat) (by_ : Nat × TypeId) : S.st.bufs[i]? = some (m, by_) → n < m → RelC S cs (S.τ i n).1 (S.τ i n).2.1 →
      (m = n + 1 → by_.1 < pendF → 0 < by_.1 ∧ S.ρ i = ((S.τ i n).1, (S.τ i n).2.1 + cs.length, (S.τ i n).2.2) ∧ ∃ k, S.w.shape? (S.τ i n).1 = some (by_.2, k)) →
      Rel S (.epz i sz n cs) (.pointer (some ⟨(S.τ i n).1, (S.τ i n).2.1, none⟩))
inductive RelL (S : Sit) : List V → List Value → Prop
  | nil : RelL S [] []
  | cons (v : V) (c : Value) (vs : List V) (cs : List Value) : Rel S v c → RelL S vs cs → RelL S (v :: vs) (c :: cs)
inductive RelC (S : Sit) : List V → Nat → Nat → Prop
  | nil (b off : Nat) : RelC S [] b off
  | cons (v : V) (c : Value) (vs : List V) (b off : Nat) : v.one = true → S.w.cell? ⟨b, off, none⟩ = some c → ¬ S.own ⟨b, off, none⟩ → Rel S v c →
      RelC S vs b (off + 1) → RelC S (v :: vs) b off
end

/-- What a step may do. -/
structure Ext0 (S S' : Sit) : Prop where
  size : S.w.heap.size ≤ S'.w.heap.size
  shape : ∀ b, b < S.w.heap.size → S'.w.shape? b = S.w.shape? b
  cell : ∀ a : Addr, a.block < S.w.heap.size → ¬ S.own a → S'.w.cell? a = S.w.cell? a
  own : ∀ a : Addr, a.block < S.w.heap.size → S'.own a → S.own a
  obs : S.st.obs.length ≤ S'.st.obs.length
  bufs : S.st.bufs.length ≤ S'.st.bufs.length
  mu : ∀ i, i < S.st.obs.length → S'.μ i = S.μ i
  buf : ∀ i m by_, i < S.st.bufs.length → S'.st.bufs[i]? = some (m, by_) →
    ∃ m0 by0, S.st.bufs[i]? = some (m0, by0) ∧ (m0 < m ∨ (m0 = m ∧ by0 = by_ ∧ S'.ρ i = S.ρ i) ∨ (m0 = m ∧ ¬ pendF < by0.1 ∧ pendF < by_.1))
  tau : ∀ i m by_, S.st.bufs[i]? = some (m, by_) → ∀ p, (p < m ∨ (p = m ∧ pendF < by_.1)) → S'.τ i p = S.τ i p

/-- ... and what is hidden stays as it is. -/
structure Ext (S S' : Sit) : Prop extends Ext0 S S' where
  hid : ∀ b q, S.hid b q → S'.hid b q ∧ S'.w.heap[b]? = S.w.heap[b]?

theorem Ext.refl (S : Sit) : Ext S S :=
  ⟨⟨Nat.le_refl _, fun _ _ => rfl, fun _ _ _ => rfl, fun _ _ h => h, Nat.le_refl _, Nat.le_refl _, fun _ _ => rfl, fun _ m b _ h => ⟨m, b, h, .inr (.inl ⟨rfl, rfl, rfl⟩)⟩, fun _ _ _ _ _ _ => rfl⟩, fun _ _ h => ⟨h, rfl⟩⟩

theorem Ext.trans {S S' S'' : Sit} (h : Ext S S') (k : Ext S' S'') : Ext S S'' where
  size := Nat.le_trans h.size k.size
  shape b hb := (k.shape b (Nat.lt_of_lt_of_le hb h.size)).trans (h.shape b hb)
  cell a ha ho := (k.cell a (Nat.lt_of_lt_of_le ha h.size) (fun o => ho (h.own a ha o))).trans (h.cell a ha ho)
  own a ha o := h.own a ha (k.own a (Nat.lt_of_lt_of_le ha h.size) o)
  obs := Nat.le_trans h.obs k.obs
  bufs := Nat.le_trans h.bufs k.bufs
  mu i hi := (k.mu i (Nat.lt_of_lt_of_le hi h.obs)).trans (h.mu i hi)
  hid b q hb := ⟨(k.hid b q (h.hid b q hb).1).1, (k.hid b q (h.hid b q hb).1).2.trans (h.hid b q hb).2⟩
  buf i m b hi hm := by
    obtain ⟨m1, b1, h1, hc⟩ := k.buf i m b (Nat.lt_of_lt_of_le hi h.bufs) hm
    obtain ⟨m0, b0, h0, hd⟩ := h.buf i m1 b1 hi h1
    refine ⟨m0, b0, h0, ?_⟩
    rcases hc with hc | ⟨rfl, rfl, hc⟩ | ⟨rfl, hc, hc'⟩ <;> rcases hd with hd | ⟨rfl, rfl, hd⟩ | ⟨rfl, hd, hd'⟩
    · exact .inl (by omega)
    · exact .inl hc
    · exact .inl (by omega)
    · exact .inl hd
    · exact .inr (.inl ⟨rfl, rfl, hc.trans hd⟩)
    · exact .inr (.inr ⟨rfl, hd, hd'⟩)
    · exact .inl hd
    · exact .inr (.inr ⟨rfl, hc, hc'⟩)
    · exact .inr (.inr ⟨rfl, hd, hc'⟩)
  tau i m by_ hm p hp := by
    have hi : i < S.st.bufs.length := (List.getElem?_eq_some_iff.1 hm).1
    have hi' := Nat.lt_of_lt_of_le hi h.bufs
    obtain ⟨⟨m', by'⟩, hb'⟩ : ∃ q, S'.st.bufs[i]? = some q := ⟨_, List.getElem?_eq_getElem hi'⟩
    obtain ⟨m0, b0, h0, hd⟩ := h.buf i m' by' hi hb'
    rw [hm] at h0
    simp only [Option.some.injEq, Prod.mk.injEq] at h0
    obtain ⟨rfl, rfl⟩ := h0
    refine (k.tau i m' by' hb' p ?_).trans (h.tau i _ _ hm p hp)
    rcases hd with hd | ⟨rfl, rfl, _⟩ | ⟨rfl, hd, hd'⟩
    · left; omega
    · exact hp
    · rcases hp with hp | hp
      · exact .inl hp
      · exact absurd hp.2 hd

theorem shape_lt {w : World} {b : Nat} {x : TypeId × Nat} (h : w.shape? b = some x) : b < w.heap.size := by
  rcases Nat.lt_or_ge b w.heap.size with q | q
  · exact q
  · simp [World.shape?, Array.getElem?_eq_none q] at h

theorem Ext0.entry {S S' : Sit} (h : Ext0 S S') {i m : Nat} {by_ : Nat × TypeId} (hm : S.st.bufs[i]? = some (m, by_)) :
    ∃ m' by', S'.st.bufs[i]? = some (m', by') ∧ (m < m' ∨ (m = m' ∧ by_ = by' ∧ S'.ρ i = S.ρ i) ∨ (m = m' ∧ ¬ pendF < by_.1 ∧ pendF < by'.1)) := by
  have hi : i < S.st.bufs.length := (List.getElem?_eq_some_iff.1 hm).1
  have hi' := Nat.lt_of_lt_of_le hi h.bufs
  obtain ⟨⟨m', by'⟩, hb'⟩ : ∃ q, S'.st.bufs[i]? = some q := ⟨_, List.getElem?_eq_getElem hi'⟩
  obtain ⟨m0, b0, h0, hd⟩ := h.buf i m' by' hi hb'
  rw [hm] at h0
  simp only [Option.some.injEq, Prod.mk.injEq] at h0
  obtain ⟨rfl, rfl⟩ := h0
  exact ⟨m', by', hb', hd⟩

theorem OwnOk.mono0 {S S' : Sit} (h : Ext0 S S') {o : Own} {n b off cap sz : Nat} (k : OwnOk S o n b off cap sz) : OwnOk S' o n b off cap sz := by
  cases o with
  | no => trivial
  | nil => exact k
  | emp => exact k
  | buf i =>
    obtain ⟨m, by_, hm, hn, hk⟩ := k
    obtain ⟨m', by', hb', hd⟩ := h.entry hm
    refine ⟨_, _, hb', ?_, ?_⟩
    · rcases hd with hd | ⟨hd, _, _⟩ | ⟨hd, _, _⟩ <;> omega
    · intro e hfl
      rcases hd with hd | ⟨hd, rfl, hr⟩ | ⟨hd, _, hd'⟩
      · omega
      · obtain ⟨h1, h0, h3, ⟨k, h4⟩, h5⟩ := hk (by omega) hfl
        rw [hr]
        exact ⟨h1, h0, h3, ⟨k, (h.shape b (shape_lt h4)).trans h4⟩, h5⟩
      · omega

mutual
theorem Rel.mono0 {S S' : Sit} (h : Ext0 S S') : ∀ {v : V} {c : Value}, Rel S v c → Rel S' v c
  | _, _, .junk c => .junk c
  | _, _, .bool b => .bool b
  | _, _, .int k n => .int k n
  | _, _, .str l => .str l
  | _, _, .nilF => .nilF
  | _, _, .nilI => .nilI
  | _, _, .pnil => .pnil
  | _, _, .mnil => .mnil
  | _, _, .fn f xs ys cx cy hx hy => .fn f xs ys cx cy (RelL.mono0 h hx) (RelL.mono0 h hy)
  | _, _, .slNil => .slNil
  | _, _, .slNo => .slNo
  | _, _, .slNew a => .slNew a
  | _, _, .slEmp a => .slEmp a
  | _, _, .slBuf i hi => .slBuf i (Nat.lt_of_lt_of_le hi h.bufs)
  | _, _, .slAt o xs b off cap sz h1 h2 h3 h4 => .slAt o xs b off cap sz h1 h2 (RelC.mono0 h h3) (h4.mono0 h)
  | _, _, .msl id sz off len cap t hi hl hs => by
    rw [← h.mu id hi]
    exact .msl id sz off len cap t (Nat.lt_of_lt_of_le hi h.obs) hl (by rw [h.mu id hi]; exact (h.shape _ (shape_lt hs)).trans hs)
  | _, _, .agg cs cc hl => .agg cs cc (RelL.mono0 h hl)
  | _, _, .tup cs cc hl => .tup cs cc (RelL.mono0 h hl)
  | _, _, .ptr id off hi => by rw [← h.mu id hi]; exact .ptr id off (Nat.lt_of_lt_of_le hi h.obs)
  | _, _, .ept cs b off hc => .ept cs b off (RelC.mono0 h hc)
  | _, _, .map id hi => by rw [← h.mu id hi]; exact .map id (Nat.lt_of_lt_of_le hi h.obs)
  | _, _, .itr id hi => by rw [← h.mu id hi]; exact .itr id (Nat.lt_of_lt_of_le hi h.obs)
  | _, _, .ifc t v c hv => .ifc t v c (Rel.mono0 h hv)
  | _, _, .dat i xs b off cap sz h0 h1 h2 h3 => .dat i xs b off cap sz h0 h1 (RelC.mono0 h h2) (h3.mono0 h)
  | _, _, .slx i sz xs b cap m by_ h1 h2 h3 h4 h5 h6 h7 => by
    obtain ⟨m', by', hb', hd⟩ := h.entry h5
    have ht : S'.τ i xs.length = S.τ i xs.length := h.tau i m by_ h5 _ (by rcases h6 with h6 | h6; exact .inl h6; exact .inr ⟨h6.1, h6.2.1⟩)
    refine .slx i sz xs b cap m' by' h1 h2 h3 (RelC.mono0 h h4) hb' ?_ (ht.trans h7)
    rcases hd with hd | ⟨rfl, rfl, hr⟩ | ⟨rfl, hd, hd'⟩
    · left; rcases h6 with h6 | h6 <;> omega
    · rcases h6 with h6 | ⟨q1, q2, q3, k, q4⟩
      · exact .inl h6
      · rw [ht]
        exact .inr ⟨q1, q2, hr.trans q3, k, (h.shape _ (shape_lt q4)).trans q4⟩
    · rcases h6 with h6 | h6
      · exact .inl h6
      · exact absurd h6.2.1 hd
  | _, _, .spp i sz n m by_ h1 h2 => by
    obtain ⟨m', by', hb', hd⟩ := h.entry h1
    have ht : S'.τ i n = S.τ i n := h.tau i m by_ h1 _ (by rcases h2 with h2 | h2; exact .inl h2; exact .inr ⟨h2.1, h2.2.1⟩)
    rw [← ht]
    refine .spp i sz n m' by' hb' ?_
    rcases hd with hd | ⟨rfl, rfl, hr⟩ | ⟨rfl, hd, hd'⟩
    · left; rcases h2 with h2 | h2 <;> omega
    · rcases h2 with h2 | ⟨q1, q2, q3, q4, q5, q6, k, q7⟩
      · exact .inl h2
      · rw [ht]
        exact .inr ⟨q1, q2, hr.trans q3, q4, q5, q6, k, (h.shape _ (shape_lt q7)).trans q7⟩
    · rcases h2 with h2 | h2
      · exact .inl h2
      · exact absurd h2.2.1 hd
  | _, _, .epz i sz n cs m by_ h1 h2 h3 h4 => by
    obtain ⟨m', by', hb', hd⟩ := h.entry h1
    have ht : S'.τ i n = S.τ i n := h.tau i m by_ h1 _ (.inl h2)
    rw [← ht]
    refine .epz i sz n cs m' by' hb' ?_ (by rw [ht]; exact RelC.mono0 h h3) ?_
    · rcases hd with hd | ⟨hd, _, _⟩ | ⟨hd, _, _⟩ <;> omega
    · intro e hfl
      rcases hd with hd | ⟨rfl, rfl, hr⟩ | ⟨rfl, hd, hd'⟩
      · omega
      · obtain ⟨q0, q1, k, q2⟩ := h4 e hfl
        rw [ht, hr]
        exact ⟨q0, q1, k, (h.shape _ (shape_lt q2)).trans q2⟩
      · omega
theorem RelL.mono0 {S S' : Sit} (h : Ext0 S S') : ∀ {vs : List V} {cs : List Value}, RelL S vs cs → RelL S' vs cs
  | _, _, .nil => .nil
  | _, _, .cons v c vs cs hv hl => .cons v c vs cs (Rel.mono0 h hv) (RelL.mono0 h hl)
theorem RelC.mono0 {S S' : Sit} (h : Ext0 S S') : ∀ {vs : List V} {b off : Nat}, RelC S vs b off → RelC S' vs b off
  | _, _, _, .nil b off => .nil b off
  | _, _, _, .cons v c vs b off h1 hc ho hv hl =>
    have hb : b < S.w.heap.size := World.block_lt_of_cell? (a := ⟨b, off, none⟩) _ hc
    .cons v c vs b off h1 ((h.cell _ hb ho).trans hc) (fun o => ho (h.own _ hb o)) (Rel.mono0 h hv) (RelC.mono0 h hl)
end

theorem OwnOk.mono {S S' : Sit} (h : Ext S S') {o : Own} {n b off cap sz : Nat} (k : OwnOk S o n b off cap sz) : OwnOk S' o n b off cap sz := k.mono0 h.toExt0
theorem Rel.mono {S S' : Sit} (h : Ext S S') {v : V} {c : Value} (k : Rel S v c) : Rel S' v c := Rel.mono0 h.toExt0 k
theorem RelL.mono {S S' : Sit} (h : Ext S S') {vs : List V} {cs : List Value} (k : RelL S vs cs) : RelL S' vs cs := RelL.mono0 h.toExt0 k
theorem RelC.mono {S S' : Sit} (h : Ext S S') {vs : List V} {b off : Nat} (k : RelC S vs b off) : RelC S' vs b off := RelC.mono0 h.toExt0 k

theorem RelL.length {S : Sit} : ∀ {vs : List V} {cs : List Value}, RelL S vs cs → vs.length = cs.length
  | _, _, .nil => rfl
  | _, _, .cons _ _ _ _ _ hl => by simp [RelL.length hl]

theorem RelL.get {S : Sit} : ∀ {vs : List V} {cs : List Value} (_ : RelL S vs cs) (i : Nat) (v : V), vs[i]? = some v → ∃ c, cs[i]? = some c ∧ Rel S v c
  | _, _, .nil, _, _, h => by simp at h
  | _, _, .cons v c _ _ hv hl, i, u, h => by
    cases i with
    | zero => simp at h; subst h; exact ⟨c, rfl, hv⟩
    | succ i => simp at h; obtain ⟨d, hd, hr⟩ := RelL.get hl i u h; exact ⟨d, by simpa using hd, hr⟩

theorem RelL.append {S : Sit} : ∀ {vs us : List V} {cs ds : List Value}, RelL S vs cs → RelL S us ds → RelL S (vs ++ us) (cs ++ ds)
  | _, _, _, _, .nil, k => k
  | _, _, _, _, .cons v c vs cs hv hl, k => .cons v c _ _ hv (RelL.append hl k)

theorem RelL.drop {S : Sit} : ∀ {vs : List V} {cs : List Value} (n : Nat), RelL S vs cs → RelL S (vs.drop n) (cs.drop n)
  | _, _, 0, h => h
  | _, _, _ + 1, .nil => .nil
  | _, _, n + 1, .cons _ _ _ _ _ hl => RelL.drop n hl

theorem RelL.take {S : Sit} : ∀ {vs : List V} {cs : List Value} (n : Nat), RelL S vs cs → RelL S (vs.take n) (cs.take n)
  | _, _, 0, _ => by simpa using RelL.nil
  | _, _, _ + 1, .nil => by simpa using RelL.nil
  | _, _, n + 1, .cons v c vs cs hv hl => by simpa using RelL.cons v c _ _ hv (RelL.take n hl)

theorem RelL.set {S : Sit} : ∀ {vs : List V} {cs : List Value} (i : Nat) {v : V} {c : Value}, RelL S vs cs → Rel S v c → RelL S (vs.set i v) (cs.set i c)
  | _, _, _, _, _, .nil, _ => by simpa using RelL.nil
  | _, _, 0, v, c, .cons _ _ vs cs _ hl, k => by simpa using RelL.cons v c vs cs k hl
  | _, _, i + 1, v, c, .cons u d vs cs hu hl, k => by simpa using RelL.cons u d _ _ hu (RelL.set i hl k)

theorem RelL.replicate {S : Sit} {v : V} {c : Value} (h : Rel S v c) : ∀ n, RelL S (List.replicate n v) (List.replicate n c)
  | 0 => .nil
  | n + 1 => .cons v c _ _ h (RelL.replicate h n)

theorem RelC.append {S : Sit} : ∀ {vs us : List V} {b off : Nat}, RelC S vs b off → RelC S us b (off + vs.length) → RelC S (vs ++ us) b off
  | _, _, _, _, .nil _ _, k => by simpa using k
  | _, _, _, _, .cons v c vs b off h1 hc ho hv hl, k => .cons v c _ b off h1 hc ho hv (RelC.append hl (by
      have : off + 1 + vs.length = off + (vs.length + 1) := by omega
      rw [this]; simpa using k))

theorem RelC.drop {S : Sit} : ∀ {vs : List V} {b off : Nat} (n : Nat), RelC S vs b off → RelC S (vs.drop n) b (off + n)
  | _, _, _, 0, h => h
  | _, _, _, n + 1, .nil b off => .nil b (off + (n + 1))
  | _, _, _, n + 1, .cons _ _ vs b off _ _ _ _ hl => by
    have : off + (n + 1) = off + 1 + n := by omega
    rw [this]; exact RelC.drop n hl

theorem RelC.take {S : Sit} : ∀ {vs : List V} {b off : Nat} (n : Nat), RelC S vs b off → RelC S (vs.take n) b off
  | _, _, _, 0, _ => by simpa using RelC.nil _ _
  | _, _, _, _ + 1, .nil b off => by simpa using RelC.nil _ _
  | _, _, _, n + 1, .cons v c vs b off h1 hc ho hv hl => by simpa using RelC.cons v c _ b off h1 hc ho hv (RelC.take n hl)

theorem Rel.one {S : Sit} {v : V} {c : Value} (h : Rel S v c) (hv : v.one = true) : c.oneCell' = true := by
  cases h <;> first | rfl | simp [V.one] at hv

/-- The cells that stand there. -/
theorem RelC.values {S : Sit} : ∀ {vs : List V} {b off : Nat}, RelC S vs b off →
    ∃ cs : List Value, RelL S vs cs ∧ (∀ i c, cs[i]? = some c → S.w.cell? ⟨b, off + i, none⟩ = some c ∧ ¬ S.own ⟨b, off + i, none⟩) ∧ (∀ u ∈ cs, u.oneCell' = true)
  | _, _, _, .nil _ _ => ⟨[], .nil, by simp, by simp⟩
  | _, _, _, .cons v c vs b off h1 hc ho hv hl => by
    obtain ⟨cs, h1', h2, h3⟩ := RelC.values hl
    refine ⟨c :: cs, .cons v c vs cs hv h1', ?_, ?_⟩
    · intro i d hd
      cases i with
      | zero => simp at hd; subst hd; exact ⟨hc, ho⟩
      | succ i =>
        simp at hd
        have := h2 i d hd
        rw [show off + (i + 1) = off + 1 + i by omega]
        exact this
    · intro u hu
      rcases List.mem_cons.1 hu with rfl | hu
      · exact hv.one h1
      · exact h3 u hu

theorem RelC.all_one {S : Sit} : ∀ {vs : List V} {b off : Nat}, RelC S vs b off → ∀ v ∈ vs, v.one = true
  | _, _, _, .nil _ _, _, h => by cases h
  | _, _, _, .cons v c vs b off h1 _ _ _ hl, u, h => by
    rcases List.mem_cons.1 h with rfl | h
    · exact h1
    · exact RelC.all_one hl u h

/-- The other way: what stands there, and nobody may write. -/
theorem RelC.of {S : Sit} : ∀ {vs : List V} {cs : List Value} {b off : Nat}, RelL S vs cs → (∀ v ∈ vs, v.one = true) →
    (∀ i c, cs[i]? = some c → S.w.cell? ⟨b, off + i, none⟩ = some c ∧ ¬ S.own ⟨b, off + i, none⟩) → RelC S vs b off
  | _, _, _, _, .nil, _, _ => .nil _ _
  | _, _, b, off, .cons v c vs cs hv hl, h1, h => .cons v c vs b off (h1 v (by simp)) (h 0 c rfl).1 (h 0 c rfl).2 hv
      (RelC.of hl (fun u hu => h1 u (by simp [hu])) (fun i d hd => by
        have := h (i + 1) d (by simpa using hd)
        rw [show off + 1 + i = off + (i + 1) by omega]
        exact this))

theorem Rel.cells {S : Sit} {v : V} {c : Value} (h : Rel S v c) (hj : v.real = true) : RelL S v.cells c.cells.toList := by
  cases h with
  | agg cs cc hl => simpa [V.cells, Value.cells] using hl
  | junk c => simp [V.real] at hj
  | _ => exact .cons _ _ _ _ (by constructor <;> assumption) .nil

theorem V.real_of_all_one {v : V} (h : v.cells.all V.one = true) : v.real = true := by
  cases v <;> first | rfl | simp [V.cells, V.one] at h

theorem RelL.ones {S : Sit} : ∀ {vs : List V} {cs : List Value}, RelL S vs cs → vs.all V.one = true → ∀ c ∈ cs, c.oneCell' = true
  | _, _, .nil, _, _, h => by cases h
  | _, _, .cons v c vs cs hv hl, ha, d, h => by
    simp at ha
    rcases List.mem_cons.1 h with rfl | h
    · exact hv.one ha.1
    · exact RelL.ones hl (by simpa using ha.2) d h

end Go.Proofs.YtboejpobmpfifaaGreatDoor.Eng
