/-
  New objects of a region that no edge binds to each other: their blocks are hidden until all of them are there. No condition.
-/
import Derived.Test.YtboejpobmpfifaaGreatDoorEngK
namespace Go.Proofs.YtboejpobmpfifaaGreatDoor.Eng
open Go Go.RowKit
set_option linter.unusedSimpArgs false

section
variable {P : Program} {B : Nat} {w0 : World} {S : Sit}

theorem cOp_new {h : Hint} {o : Oper} {t : TypeId} {cs : List V} (hc : cOp P h o = some (.new t cs)) : ∃ z, o.op = .alloc t ∧ zeroV P t = some z ∧ z.cells = cs := by
  unfold cOp at hc
  split at hc
  case h_11 =>
    simp only [Option.bind_eq_bind, Option.bind_eq_some_iff] at hc
    obtain ⟨_, _, _, _, hc⟩ := hc
    rcases cBin_op hc with ⟨_, _, _, q⟩ | ⟨_, _, _, q⟩ | ⟨_, _, _, q⟩ | ⟨_, _, _, q⟩ | ⟨_, _, _, _, q⟩ <;> cases q
  case h_4 e hop =>
    simp only [Option.map_eq_some_iff] at hc
    obtain ⟨z, hz, hq⟩ := hc
    cases hq
    exact ⟨z, hop, hz, rfl⟩
  all_goals (exfalso; first | (simp [Option.bind_eq_some_iff, Option.map_eq_some_iff] at hc; done) | skip)
  all_goals ((repeat' split at hc) <;> simp [Option.bind_eq_some_iff, Option.map_eq_some_iff] at hc)
  all_goals (try (obtain ⟨_, _, _, _, _, _, _, _, _, _, hq⟩ := hc; (repeat' split at hq) <;> simp at hq))
  all_goals (try (obtain ⟨_, _, _, _, _, _, hq⟩ := hc; rcases ite_pick hq with hq | hq <;> cases hq))

/-- A new block, hidden. -/
def Sit.stash (S : Sit) (O : Obj) : Sit := { S.ro O with hid := fun k q => S.hid k q ∨ (k = S.w.heap.size ∧ q = fun _ => True) }
theorem Ext.stash (h : Inv B w0 S) (O : Obj) : Ext S (S.stash O) where
  size := (Ext.ro h O).size
  shape := (Ext.ro h O).shape
  cell := (Ext.ro h O).cell
  own a ha ho := by
    rcases ho with ho | ho | ⟨q, hq | hq, h2⟩
    · exact .inl ho
    · exact .inr (.inl ho)
    · exact .inr (.inr ⟨q, hq, h2⟩)
    · omega
  obs := Nat.le_refl _
  bufs := Nat.le_refl _
  mu _ _ := rfl
  buf i m b _ hm := ⟨m, b, hm, .inr (.inl ⟨rfl, rfl, rfl⟩)⟩
  tau _ _ _ _ _ _ := rfl
  hid b q hb := ⟨.inl hb, heap_alloc_lt _ _ _ (h.hid b q hb).2.1⟩
theorem Inv.stash (h : Inv B w0 S) (O : Obj) : Inv B w0 (S.stash O) := by
  have hr := h.ro O
  have hX := Ext.stash h O
  refine ⟨hr.below, hr.base, ?_, hr.inj, hr.buf, hr.froz, hr.live, hr.bufobj, hr.bufbuf, ?_, hr.injc⟩
  · intro i o hi
    have := h.obj i o hi
    exact ⟨this.1, this.2.mono hX (heap_alloc_lt _ _ _ this.2.lt)⟩
  · rintro b q (hb | ⟨rfl, _⟩)
    · exact hr.hid b q hb
    · refine ⟨h.base, by simp only [Sit.stash, Sit.ro, World.size_alloc]; omega, fun k hk => Nat.ne_of_lt (h.mu_lt hk), fun i hi hl => Nat.ne_of_lt (h.live i hi hl).2⟩

/-- A hidden block comes into sight: an object. -/
def Sit.shown (S : Sit) (b : Nat) (ob : AObj) : Sit :=
  { st := ⟨S.st.obs ++ [ob], S.st.bufs⟩, μ := fun i => if i = S.st.obs.length then b else S.μ i, ρ := S.ρ, τ := S.τ, w := S.w, hid := fun k q => S.hid k q ∧ k ≠ b }
theorem Ext0.shown {b : Nat} {ob : AObj} (hb : S.hid b (fun _ => True)) : Ext0 S (S.shown b ob) where
  size := Nat.le_refl _
  shape _ _ := rfl
  cell _ _ _ := rfl
  own a _ ho := by
    rcases ho with ⟨i, ⟨hi, hd⟩, hq⟩ | ⟨i, hi, hq⟩ | ⟨q, hh, hq⟩
    · by_cases e : i = S.st.obs.length
      · have hq' : a.block = b := by rw [hq]; show (if i = S.st.obs.length then b else S.μ i) = b; rw [if_pos e]
        rw [← hq'] at hb
        exact .inr (.inr ⟨_, hb, trivial⟩)
      · have hq' : a.block = S.μ i := by rw [hq]; show (if i = S.st.obs.length then b else S.μ i) = _; rw [if_neg e]
        simp only [Sit.shown, List.length_append, List.length_cons, List.length_nil] at hi hd
        rw [List.getElem?_append_left (by omega)] at hd
        exact .inl ⟨i, ⟨by omega, hd⟩, hq'⟩
    · exact .inr (.inl ⟨i, hi, hq⟩)
    · exact .inr (.inr ⟨q, hh.1, hq⟩)
  obs := by simp [Sit.shown]
  bufs := Nat.le_refl _
  mu i hi := by show (if i = S.st.obs.length then b else S.μ i) = _; rw [if_neg (by omega)]
  buf i m b _ hm := ⟨m, b, hm, .inr (.inl ⟨rfl, rfl, rfl⟩)⟩
  tau _ _ _ _ _ _ := rfl
theorem Inv.shown (h : Inv B w0 S) {b : Nat} {ob : AObj} (hb : S.hid b (fun _ => True)) (hO : RelO S ob b) : Inv B w0 (S.shown b ob) := by
  have hE := Ext0.shown (S := S) (ob := ob) hb
  obtain ⟨k1, k2, k3, k4⟩ := h.hid b _ hb
  have hmu : ∀ k, k < S.st.obs.length → (S.shown b ob).μ k = S.μ k := fun k hk => hE.mu k hk
  have hmun : (S.shown b ob).μ S.st.obs.length = b := by show (if S.st.obs.length = S.st.obs.length then b else _) = _; rw [if_pos rfl]
  have hlen : (S.shown b ob).st.obs.length = S.st.obs.length + 1 := by simp [Sit.shown]
  have hget : ∀ k o, k < S.st.obs.length → ((S.shown b ob).st.obs[k]? = some o ↔ S.st.obs[k]? = some o) := fun k o hk => by
    show (S.st.obs ++ [ob])[k]? = _ ↔ _
    rw [List.getElem?_append_left hk]
  have hlast : (S.shown b ob).st.obs[S.st.obs.length]? = some ob := by
    show (S.st.obs ++ [ob])[S.st.obs.length]? = _
    simp
  have hil : ∀ {i : Nat} {o : AObj}, (S.shown b ob).st.obs[i]? = some o → i ≠ S.st.obs.length → i < S.st.obs.length := fun {i o} hi e => by
    have := (List.getElem?_eq_some_iff.1 hi).1
    omega
  refine ⟨h.below, h.base, ?_, ?_, h.buf, h.froz, h.live, ?_, h.bufbuf, ?_, ?_⟩
  · intro i o hi
    by_cases e : i = S.st.obs.length
    · subst e
      rw [hlast] at hi
      cases hi
      rw [hmun]
      exact ⟨k1, hO.mono0 hE rfl⟩
    · have hl := hil hi e
      have := h.obj i o ((hget i o hl).1 hi)
      rw [hmu i hl]
      exact ⟨this.1, this.2.mono0 hE rfl⟩
  · intro i j hi hj e
    rw [hlen] at hi hj
    by_cases ei : i = S.st.obs.length <;> by_cases ej : j = S.st.obs.length
    · exact .inl (by omega)
    · rw [ei, hmun, hmu j (by omega)] at e
      exact absurd e.symm (k3 j (by omega))
    · rw [ej, hmun, hmu i (by omega)] at e
      exact absurd e (k3 i (by omega))
    · rw [hmu i (by omega), hmu j (by omega)] at e
      rcases h.inj i j (by omega) (by omega) e with g | g | g
      · exact .inl g
      · exact .inr (.inl ((hget i _ (by omega)).2 g))
      · exact .inr (.inr ((hget j _ (by omega)).2 g))
  · intro i k hi hk hl
    rw [hlen] at hk
    by_cases e : k = S.st.obs.length
    · rw [e, hmun]; exact k4 i hi hl
    · rw [hmu k (by omega)]; exact h.bufobj i k hi (by omega) hl
  · rintro k q ⟨hk, hkb⟩
    obtain ⟨h1, h2, h3, h4⟩ := h.hid k q hk
    refine ⟨h1, h2, fun i hi => ?_, h4⟩
    rw [hlen] at hi
    by_cases e : i = S.st.obs.length
    · rw [e, hmun]; exact fun q => hkb q.symm
    · rw [hmu i (by omega)]; exact h3 i (by omega)
  · intro i j t' cs' hi hj e
    rw [hlen] at hj
    by_cases ei : i = S.st.obs.length <;> by_cases ej : j = S.st.obs.length
    · omega
    · rw [ei, hmun, hmu j (by omega)] at e
      exact absurd e.symm (k3 j (by omega))
    · have hl := hil hi ei
      rw [ej, hmun, hmu i hl] at e
      exact absurd e (k3 i hl)
    · have hl := hil hi ei
      rw [hmu i hl, hmu j (by omega)] at e
      exact h.injc i j t' cs' ((hget i _ hl).1 hi) (by omega) e

/-- What a row writes, and nobody ahead of it looks at, may be forgotten. -/
theorem Trd.forget {f : FRow} {bs : List FRow} {e' : Env} {s' : St} {t : Nat} (hf : f.dst = some t) (hfu : t ∉ f.uses) : ∀ (as : List FRow) (e : Env) (s : St), (∀ a ∈ as, t ∉ a.uses) →
    Trd P B w0 (as ++ f :: bs) e s e' s' → Trd P B w0 (as ++ f :: bs) (kill e [t]) s e' s'
  | [], e, s, _, h => by
    cases h with
    | cons _ _ _ e1 _ _ s1 _ v hl hr h =>
      refine .cons _ _ _ (kill e1 [t]) _ _ s1 _ v ?_ (hr.congr (fun x hx => ?_)) ?_
      · intro x
        simp only [Eng.kill]
        split
        · exact .inl rfl
        · exact hl x
      · rw [kill_get]
        intro hm
        simp at hm
        exact hfu (hm ▸ hx)
      · have : put (kill e [t]) f.dst v = put e f.dst v := by
          rw [hf]
          funext x
          simp only [Eng.put, upd, Eng.kill]
          split
          · rfl
          · rename_i hne
            rw [if_neg (by simpa using hne)]
        rw [this]; exact h
  | a :: as, e, s, ha, h => by
    cases h with
    | cons _ _ _ e1 _ _ s1 _ v hl hr h =>
      have hau := ha a (by simp)
      have ih := Trd.forget hf hfu as _ _ (fun b hb => ha b (by simp [hb])) h
      refine .cons _ _ _ (kill e1 [t]) _ _ s1 _ v ?_ (hr.congr (fun x hx => ?_)) (ih.mono ?_)
      · intro x
        simp only [Eng.kill]
        split
        · exact .inl rfl
        · exact hl x
      · rw [kill_get]
        intro hm
        simp at hm
        exact hau (hm ▸ hx)
      · intro x
        simp only [Eng.kill]
        split
        · exact .inr rfl
        · rename_i hx
          left
          cases hd : a.dst with
          | none => simp only [Eng.put, Eng.kill]; rw [if_neg hx]
          | some d =>
            simp only [Eng.put, upd, Eng.kill]
            split
            · rfl
            · rfl
end
end Go.Proofs.YtboejpobmpfifaaGreatDoor.Eng
