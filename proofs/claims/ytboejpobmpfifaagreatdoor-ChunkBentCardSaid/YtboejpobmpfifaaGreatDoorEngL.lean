/-
  Regions that draw their order: the theorem. No condition.
-/
import Derived.Test.YtboejpobmpfifaaGreatDoorEngY
namespace Go.Proofs.YtboejpobmpfifaaGreatDoor.Eng
open Go Go.RowKit
set_option linter.unusedSimpArgs false
set_option linter.unusedVariables false

section
variable {P : Program} {B : Nat} {w0 : World} {S : Sit}

theorem countP_lt {p p' : Nat → Bool} : ∀ {l : List Nat} {x : Nat}, x ∈ l → p x = true → p' x = false → (∀ y, p' y = true → p y = true) → l.countP p' < l.countP p
  | y :: l, x, hx, h1, h2, h => by
    have hle : l.countP p' ≤ l.countP p := List.countP_mono_left (fun y _ => h y)
    rw [List.countP_cons, List.countP_cons]
    rcases List.mem_cons.1 hx with rfl | hx
    · rw [h1, h2]; simp; omega
    · have := countP_lt hx h1 h2 h
      cases hq : p' y with
      | true => rw [h y hq]; simp; omega
      | false => simp; split <;> omega

theorem mapM_get {α β : Type} {f : α → Option β} : ∀ {l : List α} {r : List β}, l.mapM f = some r → r.length = l.length ∧ ∀ (i : Nat) (a : α) (b : β), l[i]? = some a → r[i]? = some b → f a = some b
  | [], r, h => by
    simp at h; subst h
    exact ⟨rfl, fun i a b h => by simp at h⟩
  | x :: l, r, h => by
    simp only [List.mapM_cons, Option.bind_eq_bind, Option.bind_eq_some_iff, Option.pure_def, Option.some.injEq] at h
    obtain ⟨y, hy, r', hr, rfl⟩ := h
    obtain ⟨h1, h2⟩ := mapM_get hr
    refine ⟨by simp [h1], ?_⟩
    intro i a b ha hb
    cases i with
    | zero => simp at ha hb; subst ha; subst hb; exact hy
    | succ i => simp at ha hb; exact h2 i a b ha hb

theorem seg_len {h : Hint} {ops : Array Oper} {n : Nat} {fs : List FRow} (hm : ops.toList.mapM (cRow P h ops n) = some fs) : fs.length = ops.size := by
  rw [(mapM_get hm).1]; simp

theorem seg_row {h : Hint} {ops : Array Oper} {n : Nat} {fs : List FRow} (hm : ops.toList.mapM (cRow P h ops n) = some fs) {i : Nat} {o : Oper} {f : FRow} (ho : ops[i]? = some o) (hf : fs[i]? = some f) :
    cRow P h ops n o = some f := (mapM_get hm).2 i o f (by simpa using ho) hf

/-- Those that are not listed, in the text's order. -/
def rest (fs : List FRow) (L : Array Bool) : List (FRow × Nat) := fs.zipIdx.filter fun p => !L.getD p.2 false

theorem getD_put (a : Act) (d : Option Nat) (c : Value) (t : Nat) (h : d ≠ some t) : (a.put d c).tmps.getD t undef = a.tmps.getD t undef := by
  rw [Array.getD_eq_getD_getElem?, put_get _ _ _ _ h, ← Array.getD_eq_getD_getElem?]

theorem getD_put_self (a : Act) (t : Nat) (c : Value) (h : t < a.tmps.size) : (a.put (some t) c).tmps.getD t undef = c := by
  simp only [Act.put]
  rw [Array.getD_eq_getD_getElem?, Array.getElem?_setIfInBounds, if_pos rfl, if_pos h]
  rfl

/-- A row that stands behind others comes ahead of them. -/
theorem Trd.front {f : FRow} {bs : List FRow} {e' : Env} {s' : St} : ∀ (as : List FRow) (e : Env) (s0 : St),
    (∀ a ∈ as, (∀ t, a.dst = some t → t ∉ f.uses) ∧ (∀ t, f.dst = some t → t ∉ a.uses) ∧ (∀ t, a.dst = some t → f.dst ≠ some t)) →
    (∀ (l : List FRow) (a : FRow) (r : List FRow), as = l ++ a :: r → ∀ (e : Env) (s : St), (∀ t, (∀ g ∈ a :: f :: (r ++ bs), g.dst ≠ some t) → e' t = e t ∨ e' t = .junk) → ((∀ g ∈ l, isLoud g = false) → s = s0) →
      ∀ ea ef s1 s2 va vf, Less ea e → Less ef (put e a.dst va) → RowSem P B w0 a ea s va s1 → RowSem P B w0 f ef s1 vf s2 → ∃ s1', RowSem P B w0 f ef s vf s1' ∧ RowSem P B w0 a ea s1' va s2) →
    Trd P B w0 (as ++ f :: bs) e s0 e' s' → Trd P B w0 (f :: (as ++ bs)) e s0 e' s'
  | [], _, _, _, _, h => h
  | a :: as, e, s, h1, h2, h => by
    have hh : Trd P B w0 (a :: f :: (as ++ bs)) e s e' s' := by
      cases h with
      | cons _ _ _ ea _ _ s1 _ va hla hra h =>
        exact .cons _ _ _ _ _ _ _ _ _ hla hra (Trd.front as _ _ (fun a ha => h1 a (by simp [ha])) (fun l a' r hq e2 s2 hk hs => h2 (a :: l) a' r (by rw [hq]; rfl) e2 s2 hk (fun hall => by
          have hs1 := hra.quiet (hall a (by simp))
          rw [← hs1]
          exact hs (fun g hg => hall g (by simp [hg])))) h)
    obtain ⟨k1, k2, k3⟩ := h1 a (by simp)
    exact hh.swap k1 k2 k3 (h2 [] a as rfl e s (fun t ht => hh.kept ht) (fun _ => rfl))

/-- What is run, and hidden yet: new objects that no edge binds to each other. -/
structure Pend (P : Program) (ops : Array Oper) (fs : List FRow) (N0 : Nat) (S : Sit) (a : Act) (L LA : Array Bool) (pb : Nat → Nat) : Prop where
  new : ∀ i, L.getD i false = true → LA.getD i false = false → N0 ≤ pb i
  size : LA.size = ops.size
  sub : ∀ i, LA.getD i false = true → L.getD i false = true
  mem : ∀ i, L.getD i false = true → LA.getD i false = false → inM ops fs i = true
  blk : ∀ i f t cs, L.getD i false = true → LA.getD i false = false → fs[i]? = some f → f.op = .new t cs →
    S.hid (pb i) (fun _ => True) ∧ RelO S (.cells t cs) (pb i) ∧ ∀ d, f.dst = some d → a.tmps.getD d undef = .pointer (some ⟨pb i, 0, none⟩)
  inj : ∀ i k, L.getD i false = true → LA.getD i false = false → L.getD k false = true → LA.getD k false = false → pb i = pb k → i = k

/-- Behind the rows that are listed. -/
structure At (P : Program) (B : Nat) (w0 : World) (ops : Array Oper) (fs : List FRow) (e' : Env) (s' : St) (S0 : Sit) (a0 : Act) (L : Array Bool) (S : Sit) (a : Act) : Prop where
  size : L.size = ops.size
  closed : Closed ops L
  inv : Inv B w0 S
  ext : Ext S0 S
  trd : ∃ (LA : Array Bool) (pb : Nat → Nat), Pend P ops fs S0.w.heap.size S a L LA pb ∧ ((∃ i, L.getD i false = true ∧ LA.getD i false = false) → ∃ m, inM ops fs m = true ∧ L.getD m false = false) ∧
    ∃ e, EnvOk S e a ∧ Trd P B w0 ((rest fs LA).map (·.1)) e S.st e' s'
  asize : a.tmps.size = a0.tmps.size
  defers : a.defers = a0.defers

theorem inM_row {ops : Array Oper} {fs : List FRow} {i : Nat} (h : inM ops fs i = true) : ∃ f t cs, fs[i]? = some f ∧ f.op = .new t cs := by
  unfold inM at h
  split at h
  · rename_i f hf
    have := (Bool.and_eq_true_iff.1 h).1
    cases hop : f.op <;> rw [hop] at this <;> simp [isNew] at this
    exact ⟨f, _, _, hf, hop⟩
  · cases h
theorem inM_range {ops : Array Oper} {fs : List FRow} {i : Nat} (h : inM ops fs i = true) : i ∈ (List.range fs.length).filter (inM ops fs) := by
  obtain ⟨f, t, cs, hf, _⟩ := inM_row h
  rw [List.mem_filter, List.mem_range]
  exact ⟨(List.getElem?_eq_some_iff.1 hf).1, h⟩
theorem group_spec {ops : Array Oper} {fs : List FRow} {aps : List (Nat × Nat)} (h : drawOk ops fs aps = true) {i : Nat} (hi : inM ops fs i = true) :
    (∀ k f, fs[k]? = some f → inM ops fs k = true → f.guard = none ∧ (∃ d, f.dst = some d) ∧ ∀ j g, fs[j]? = some g → j ≠ k → g.dst ≠ f.dst) ∧
    (∀ k f, fs[k]? = some f → ∀ m, inM ops fs m = true → m ∈ ahead2 ops k k → ∀ m', inM ops fs m' = true → m' ∈ ahead2 ops k k) := by
  unfold drawOk at h
  have h := (Bool.and_eq_true_iff.1 h).1
  unfold groupOk at h
  simp only [Bool.or_eq_true] at h
  have hz : ∀ {k f}, fs[k]? = some f → (f, k) ∈ fs.zipIdx := fun {k f} hk => by rw [List.mem_zipIdx_iff_getElem?]; exact hk
  rcases h with h | h
  · have := inM_range hi
    rw [List.isEmpty_iff.1 h] at this
    cases this
  rw [List.all_eq_true] at h
  refine ⟨?_, ?_⟩
  · intro k f hf hk
    have h1 := (Bool.and_eq_true_iff.1 (h _ (hz hf))).1
    simp only [hk, Bool.not_true, Bool.false_or, Bool.and_eq_true] at h1
    obtain ⟨⟨h2, h3⟩, h4⟩ := h1
    refine ⟨by simpa using h2, Option.isSome_iff_exists.1 h3, ?_⟩
    intro j g hg hjk
    rw [List.all_eq_true] at h4
    have := h4 _ (hz hg)
    simp only [Bool.or_eq_true, beq_iff_eq, bne_iff_ne, ne_eq] at this
    rcases this with q | q
    · exact absurd q hjk
    · exact q
  · intro k f hf m hm hmk m' hm'
    have h1 := (Bool.and_eq_true_iff.1 (h _ (hz hf))).2
    simp only [Bool.or_eq_true, Bool.not_eq_true'] at h1
    rcases h1 with h1 | h1
    · rw [List.any_eq_false] at h1
      have := h1 m (inM_range hm)
      simp only [List.contains_iff_mem] at this
      exact absurd hmk this
    · rw [List.all_eq_true] at h1
      simpa using h1 m' (inM_range hm')

theorem rest_split {fs : List FRow} {L : Array Bool} {j : Nat} {f : FRow} (hf : fs[j]? = some f) (hun : L.getD j false = false) (hj : j < L.size) :
    ∃ as bs, rest fs L = as ++ (f, j) :: bs ∧ rest fs (L.setIfInBounds j true) = as ++ bs ∧ (∀ p ∈ as, fs[p.2]? = some p.1 ∧ p.2 < j ∧ L.getD p.2 false = false) ∧ (∀ p ∈ bs, fs[p.2]? = some p.1 ∧ j < p.2 ∧ L.getD p.2 false = false) ∧
      (as.Pairwise fun p q => p.2 < q.2) := by
  have hz : (fs.zipIdx)[j]? = some (f, j) := by simp [hf]
  have hlt := (List.getElem?_eq_some_iff.1 hz).1
  have hsp : fs.zipIdx = fs.zipIdx.take j ++ (f, j) :: fs.zipIdx.drop (j + 1) := by
    have h1 := List.take_append_drop j fs.zipIdx
    rw [List.drop_eq_getElem_cons hlt] at h1
    have h2 : fs.zipIdx[j] = (f, j) := by
      have := List.getElem?_eq_getElem hlt
      rw [hz] at this
      exact (Option.some.inj this).symm
    rw [h2] at h1
    exact h1.symm
  have hta : ∀ p ∈ fs.zipIdx.take j, fs[p.2]? = some p.1 ∧ p.2 < j := by
    intro p hp
    obtain ⟨k, hk⟩ := List.getElem?_of_mem hp
    rw [List.getElem?_take] at hk
    split at hk
    · have h3 := hk
      rw [List.getElem?_zipIdx] at h3
      simp only [Option.map_eq_some_iff] at h3
      obtain ⟨g, hg, rfl⟩ := h3
      simp only [Nat.zero_add]
      exact ⟨hg, by omega⟩
    · cases hk
  have htb : ∀ p ∈ fs.zipIdx.drop (j + 1), fs[p.2]? = some p.1 ∧ j < p.2 := by
    intro p hp
    obtain ⟨k, hk⟩ := List.getElem?_of_mem hp
    rw [List.getElem?_drop, List.getElem?_zipIdx] at hk
    simp only [Option.map_eq_some_iff] at hk
    obtain ⟨g, hg, rfl⟩ := hk
    simp only [Nat.zero_add]
    exact ⟨hg, by omega⟩
  have hsame : ∀ p : FRow × Nat, p.2 ≠ j → (!(L.setIfInBounds j true).getD p.2 false) = (!L.getD p.2 false) := by
    intro p hp
    rw [set_getD hj, if_neg (Ne.symm hp)]
  have hpw : (fs.zipIdx.take j).Pairwise fun p q => p.2 < q.2 := by
    have : (fs.zipIdx).Pairwise fun p q => p.2 < q.2 := by
      rw [List.pairwise_iff_getElem]
      intro i k hi hk hik
      simp only [List.getElem_zipIdx]
      omega
    exact this.sublist (List.take_sublist _ _)
  unfold rest
  generalize fs.zipIdx.take j = X at hsp hta hpw
  generalize fs.zipIdx.drop (j + 1) = Y at hsp htb
  rw [hsp]
  refine ⟨X.filter (fun p => !L.getD p.2 false), Y.filter (fun p => !L.getD p.2 false), ?_, ?_, ?_, ?_, ?_⟩
  · rw [List.filter_append, List.filter_cons_of_pos (by simp [hun])]
  · rw [List.filter_append, List.filter_cons_of_neg (by rw [set_getD hj, if_pos rfl]; simp)]
    congr 1
    · exact List.filter_congr fun p hp => hsame p (by have := (hta p hp).2; omega)
    · exact List.filter_congr fun p hp => hsame p (by have := (htb p hp).2; omega)
  · intro p hp
    obtain ⟨hp1, hp2⟩ := List.mem_filter.1 hp
    exact ⟨(hta p hp1).1, (hta p hp1).2, by simpa using hp2⟩
  · intro p hp
    obtain ⟨hp1, hp2⟩ := List.mem_filter.1 hp
    exact ⟨(htb p hp1).1, (htb p hp1).2, by simpa using hp2⟩
  · exact hpw.filter _

/-- A row comes ahead of those that it isn't bound to. -/
theorem bring {ops : Array Oper} {fs : List FRow} {aps : List (Nat × Nat)} {e' : Env} {s' : St} (hd : drawOk ops fs aps = true) (hap : aparts aps e' = true) (hI : Inv B w0 S) {j : Nat} {f : FRow} (hf : fs[j]? = some f)
    {as bs : List (FRow × Nat)} {e : Env} (has : ∀ p ∈ as, fs[p.2]? = some p.1 ∧ p.2 < j) (hbs : ∀ p ∈ bs, fs[p.2]? = some p.1 ∧ j < p.2) (hpw : as.Pairwise fun p q => p.2 < q.2)
    (hfree : ∀ p ∈ as, (∀ t, p.1.dst = some t → t ∉ f.uses) ∧ (∀ t, f.dst = some t → t ∉ p.1.uses) ∧ (∀ t, p.1.dst = some t → f.dst ≠ some t))
    (hnb : ∀ p ∈ as, p.2 ∉ ahead2 ops j j) (hnm : ∀ p ∈ as, ¬ (inM ops fs j = true ∧ inM ops fs p.2 = true))
    (hT : Trd P B w0 (as.map (·.1) ++ f :: bs.map (·.1)) e S.st e' s') : Trd P B w0 (f :: (as.map (·.1) ++ bs.map (·.1))) e S.st e' s' := by
  obtain ⟨hd1, hd2⟩ := drawOk_spec hd hf
  have hfar : ∀ p ∈ as, pairOk fs aps (isNew f.op && calmOf ops fs j) p.1 p.2 f j = true := by
    intro p hp
    obtain ⟨hp1, hp2⟩ := has p hp
    rcases (hd2 p.2 p.1 hp1).2 hp2 with hq | hq | hq
    · exact absurd hq (hnb p hp)
    · exact hq
    · exact absurd hq (hnm p hp)
  exact Trd.front (f := f) (bs := bs.map (·.1)) (as.map (·.1)) e S.st (fun a ha => by
      obtain ⟨p, hp, rfl⟩ := List.mem_map.1 ha
      exact hfree p hp) (by
    intro l a r hlr e s hkept hst0 ea ef s1 s2 va vf hla hlf hra hrf
    obtain ⟨l', r0, hl1, hl2, hl3⟩ := List.map_eq_append_iff.1 hlr
    obtain ⟨p, r', hp0, hp1, hr'⟩ := List.map_eq_cons_iff.1 hl3
    subst hp0
    have hpm : p ∈ as := by rw [hl1]; simp
    obtain ⟨q1, q2⟩ := has p hpm
    subst hp1
    refine sc (hfar p hpm) hra hrf ?_ hap ?_
    · intro hcm0 i o hi
      have hcm : calmOf ops fs j = true := (Bool.and_eq_true_iff.1 hcm0).2
      have hs0 := hst0 (fun g hg => by
        rw [← hl2] at hg
        obtain ⟨q, hq, rfl⟩ := List.mem_map.1 hg
        have hqm : q ∈ as := by rw [hl1]; simp [hq]
        obtain ⟨w1, w2⟩ := has q hqm
        rcases calm_spec hcm w1 w2 with h | h | h
        · exact h
        · exact absurd h (hnb q hqm)
        · exact absurd h (hnm q hqm))
      rw [hs0] at hi ⊢
      exact (hI.obj i o hi).2.und
    intro x y hyo hsx hsy
    -- nothing from here on writes these slots
    have hnx : ∀ g ∈ p.1 :: f :: (r ++ bs.map (·.1)), g.dst ≠ some x := by
      intro g hg
      simp only [List.mem_cons, List.mem_append] at hg
      rcases hg with rfl | rfl | hg | hg
      · exact stable_spec hsx q1 (Nat.le_refl _)
      · exact stable_spec hsx hf (by omega)
      · rw [← hr'] at hg
        obtain ⟨q, hq, rfl⟩ := List.mem_map.1 hg
        have hqm : q ∈ as := by rw [hl1]; simp [hq]
        have hpq : p.2 < q.2 := by
          rw [hl1, List.pairwise_append] at hpw
          exact (List.pairwise_cons.1 hpw.2.1).1 q hq
        exact stable_spec hsx (has q hqm).1 (by omega)
      · obtain ⟨q, hq, rfl⟩ := List.mem_map.1 hg
        obtain ⟨w1, w2⟩ := hbs q hq
        exact stable_spec hsx w1 (by omega)
    have hyu : y ∈ f.uses := List.mem_append.2 (.inr hyo)
    have hny : ∀ g ∈ p.1 :: f :: (r ++ bs.map (·.1)), g.dst ≠ some y := by
      intro g hg
      simp only [List.mem_cons, List.mem_append] at hg
      rcases hg with rfl | rfl | hg | hg
      · intro hgy
        exact (hfree p hpm).1 y hgy hyu
      · exact stable_spec hsy hf (Nat.le_refl _)
      · rw [← hr'] at hg
        obtain ⟨q, hq, rfl⟩ := List.mem_map.1 hg
        have hqm : q ∈ as := by rw [hl1]; simp [hq]
        intro hgy
        exact (hfree q hqm).1 y hgy hyu
      · obtain ⟨q, hq, rfl⟩ := List.mem_map.1 hg
        obtain ⟨w1, w2⟩ := hbs q hq
        exact stable_spec hsy w1 (by omega)
    have hx' := hkept x hnx
    have hy' := hkept y hny
    have hea := hla x
    have hef := hlf y
    rw [put_get' (e := e) (d := p.1.dst) (by
      intro hm
      have := hny p.1 (by simp)
      cases hq : p.1.dst with
      | none => rw [hq] at hm; simp at hm
      | some d => rw [hq] at hm this; simp at hm; exact this (by rw [hm]))] at hef
    refine ⟨?_, ?_⟩
    · rcases hx' with hx' | hx'
      · rcases hea with hea | hea
        · exact .inl (by rw [hea, hx'])
        · exact .inr (.inl hea)
      · exact .inr (.inr hx')
    · rcases hy' with hy' | hy'
      · rcases hef with hef | hef
        · exact .inl (by rw [hef, hy'])
        · exact .inr (.inl hef)
      · exact .inr (.inr hy')) hT
theorem first_of {p : Nat → Prop} (h : ∃ i, p i) : ∃ i, p i ∧ ∀ k, k < i → ¬ p k := by
  classical
  obtain ⟨i, hi⟩ := h
  induction i using Nat.strongRecOn with
  | ind i ih =>
    by_cases hq : ∃ k, k < i ∧ p k
    · obtain ⟨k, hk, hp⟩ := hq
      exact ih k hk hp
    · exact ⟨i, hi, fun k hk hp => hq ⟨k, hk, hp⟩⟩

theorem EnvOk.shown {a : Act} {e : Env} {b d : Nat} {ob : AObj} (hb : S.hid b (fun _ => True)) (hE : EnvOk S e a) (hd : a.tmps.getD d undef = .pointer (some ⟨b, 0, none⟩)) :
    EnvOk (S.shown b ob) (Eng.put e (some d) (.ptr S.st.obs.length 0)) a := by
  intro x
  simp only [Eng.put, upd]
  split
  · rename_i hx
    subst hx
    rw [hd]
    have := Rel.ptr (S := S.shown b ob) S.st.obs.length 0 (by simp [Sit.shown])
    have hm : (S.shown b ob).μ S.st.obs.length = b := by show (if S.st.obs.length = S.st.obs.length then b else _) = _; rw [if_pos rfl]
    rw [hm] at this
    exact this
  · exact (hE x).mono0 (Ext0.shown hb)

theorem Ext.shown {S0 : Sit} (hX : Ext S0 S) {b : Nat} {ob : AObj} (hb : S.hid b (fun _ => True)) (hnew : ∀ k q, S0.hid k q → k ≠ b) : Ext S0 (S.shown b ob) := by
  refine ⟨?_, fun k q hk => ⟨⟨(hX.hid k q hk).1, hnew k q hk⟩, (hX.hid k q hk).2⟩⟩
  have h2 := Ext0.shown (S := S) (ob := ob) hb
  have h1 := hX.toExt0
  refine ⟨Nat.le_trans h1.size h2.size, fun b hb => (h2.shape b (Nat.lt_of_lt_of_le hb h1.size)).trans (h1.shape b hb),
    fun a ha ho => (h2.cell a (Nat.lt_of_lt_of_le ha h1.size) (fun o => ho (h1.own a ha o))).trans (h1.cell a ha ho),
    fun a ha o => h1.own a ha (h2.own a (Nat.lt_of_lt_of_le ha h1.size) o), Nat.le_trans h1.obs h2.obs, h1.bufs,
    fun i hi => (h2.mu i (Nat.lt_of_lt_of_le hi h1.obs)).trans (h1.mu i hi), h1.buf, h1.tau⟩

theorem rest_len {fs : List FRow} {L : Array Bool} {j : Nat} {f : FRow} (hf : fs[j]? = some f) (hun : L.getD j false = false) (hj : j < L.size) : (rest fs (L.setIfInBounds j true)).length < (rest fs L).length := by
  obtain ⟨as, bs, h1, h2, _⟩ := rest_split hf hun hj
  rw [h1, h2]
  simp

/-- All such objects are there: they come into sight, in the text's order. -/
theorem flush {h : Hint} {ops : Array Oper} {n : Nat} {fs : List FRow} {aps : List (Nat × Nat)} {e' : Env} {s' : St} (hm : ops.toList.mapM (cRow P h ops n) = some fs) (hd : drawOk ops fs aps = true) (hap : aparts aps e' = true)
    {S0 : Sit} {L : Array Bool} {a : Act} (hL : L.size = ops.size) (hcl : Closed ops L) (hall : ∀ m, inM ops fs m = true → L.getD m false = true) :
    ∀ (N : Nat) (S : Sit) (LA : Array Bool) (pb : Nat → Nat) (e : Env), (rest fs LA).length ≤ N → Inv B w0 S → Ext S0 S → Pend P ops fs S0.w.heap.size S a L LA pb → (∀ i, L.getD i false = true → LA.getD i false = false → ∀ k q, S0.hid k q → k ≠ pb i) →
      EnvOk S e a → Trd P B w0 ((rest fs LA).map (·.1)) e S.st e' s' →
      ∃ S' e1, S'.w = S.w ∧ Inv B w0 S' ∧ Ext S0 S' ∧ EnvOk S' e1 a ∧ Trd P B w0 ((rest fs L).map (·.1)) e1 S'.st e' s' := by
  intro N
  induction N with
  | zero =>
    intro S LA pb e hN hI hX hP hn hE hT
    refine ⟨S, e, rfl, hI, hX, hE, ?_⟩
    have h0 : rest fs LA = [] := List.length_eq_zero_iff.1 (by omega)
    have h1 : rest fs L = [] := by
      rw [List.eq_nil_iff_forall_not_mem] at h0 ⊢
      intro p hp
      refine h0 p ?_
      unfold rest at hp ⊢
      rw [List.mem_filter] at hp ⊢
      refine ⟨hp.1, ?_⟩
      cases hq : LA.getD p.2 false with
      | false => rfl
      | true =>
        have := hP.sub _ hq
        have h2 := hp.2
        rw [this] at h2
        cases h2
    rw [h0] at hT
    rw [h1]
    exact hT
  | succ N ih =>
    intro S LA pb e hN hI hX hP hn hE hT
    by_cases hex : ∃ i, L.getD i false = true ∧ LA.getD i false = false
    · -- the first of them
      obtain ⟨i, ⟨hi1, hi2⟩, hmin⟩ := first_of hex
      have hiM := hP.mem i hi1 hi2
      obtain ⟨f, t, cs, hf, hop⟩ := inM_row hiM
      obtain ⟨hg1, hg2⟩ := group_spec hd hiM
      obtain ⟨hgd, ⟨d, hdst⟩, huniq⟩ := hg1 i f hf hiM
      obtain ⟨hb1, hb2, hb3⟩ := hP.blk i f t cs hi1 hi2 hf hop
      have hil : i < ops.size := by
        have := (List.getElem?_eq_some_iff.1 hf).1
        rw [← seg_len hm]; exact this
      obtain ⟨as, bs, hr1, hr2, has, hbs, hpw⟩ := rest_split hf hi2 (by rw [hP.size]; exact hil)
      have huse : f.uses = [] := by simp [FRow.uses, hgd, hop, usesG, usesO]
      -- those ahead of it aren't run
      have hnl : ∀ p ∈ as, L.getD p.2 false = false := by
        intro p hp
        obtain ⟨_, p2, p3⟩ := has p hp
        cases hq : L.getD p.2 false with
        | false => rfl
        | true => exact absurd ⟨hq, p3⟩ (hmin p.2 p2)
      rw [hr1] at hT
      simp only [List.map_append, List.map_cons] at hT
      have hT2 := bring hd hap hI hf (fun p hp => ⟨(has p hp).1, (has p hp).2.1⟩) (fun p hp => ⟨(hbs p hp).1, (hbs p hp).2.1⟩) hpw (by
        intro p hp
        obtain ⟨p1, p2, p3⟩ := has p hp
        refine ⟨fun t _ hu => (by rw [huse] at hu; cases hu), ?_, ?_⟩
        · intro t' ht' hu
          rcases (((drawOk_spec hd p1).2 i f hf).1 t' ht').2 hu with hq | ⟨_, hq | hq⟩
          · omega
          · omega
          · have := hcl i hi1 p.2 hq
            rw [hnl p hp] at this
            cases this
        · intro t' ht' hq
          exact huniq p.2 p.1 p1 (by omega) (ht'.trans hq.symm)) (by
        intro p hp hq
        have := hcl.far i i p.2 hi1 hq
        rw [hnl p hp] at this
        cases this) (by
        rintro p hp ⟨_, hq⟩
        have := hall p.2 hq
        rw [hnl p hp] at this
        cases this) hT
      cases hT2 with
      | cons _ _ _ e1 _ _ s1 _ v hle hsem hT3 =>
        have hrun := hsem.run_of (by rw [hop]; rfl)
        rcases hrun with ⟨_, hev⟩ | ⟨hu, _⟩
        · rw [hop] at hev
          simp only [evOp, Option.some.injEq, Prod.mk.injEq] at hev
          obtain ⟨rfl, rfl⟩ := hev
          have hE' := EnvOk.shown (ob := .cells t cs) hb1 hE (hb3 d hdst)
          have hI' := hI.shown hb1 hb2
          have hX' := hX.shown (ob := .cells t cs) hb1 (hn i hi1 hi2)
          rw [hdst] at hT3
          have hlt := rest_len hf hi2 (by rw [hP.size]; exact hil)
          have hgd' := fun k => @set_getD LA i k (by rw [hP.size]; exact hil)
          refine ih (S.shown (pb i) (.cells t cs)) (LA.setIfInBounds i true) pb _ (by omega) hI' hX' ⟨?_, by simpa using hP.size, ?_, ?_, ?_, ?_⟩ ?_ hE' (by rw [hr2, List.map_append]; exact hT3)
          · intro k hk1 hk2
            rw [hgd'] at hk2
            split at hk2
            · cases hk2
            · exact hP.new k hk1 hk2
          · intro k hk
            rw [hgd'] at hk
            split at hk
            · rename_i hik; rw [← hik]; exact hi1
            · exact hP.sub k hk
          · intro k hk1 hk2
            rw [hgd'] at hk2
            split at hk2
            · cases hk2
            · exact hP.mem k hk1 hk2
          · intro k g t' cs' hk1 hk2 hg hgop
            rw [hgd'] at hk2
            split at hk2
            · cases hk2
            · rename_i hik
              obtain ⟨c1, c2, c3⟩ := hP.blk k g t' cs' hk1 hk2 hg hgop
              refine ⟨⟨c1, fun he => hik (hP.inj i k hi1 hi2 hk1 hk2 he.symm)⟩, c2.mono0 (Ext0.shown hb1) rfl, c3⟩
          · intro k k' hk1 hk2 hk3 hk4
            rw [hgd'] at hk2 hk4
            split at hk2
            · cases hk2
            · split at hk4
              · cases hk4
              · exact hP.inj k k' hk1 hk2 hk3 hk4
          · intro k hk1 hk2
            rw [hgd'] at hk2
            split at hk2
            · cases hk2
            · exact hn k hk1 hk2
        · unfold unsV at hu
          rw [hgd] at hu
          exact hu.elim
    · -- none
      refine ⟨S, e, rfl, hI, hX, hE, ?_⟩
      have : rest fs L = rest fs LA := by
        unfold rest
        refine List.filter_congr fun p _ => ?_
        cases hq : LA.getD p.2 false with
        | true => rw [hP.sub _ hq]
        | false =>
          cases hq2 : L.getD p.2 false with
          | false => rfl
          | true => exact absurd ⟨p.2, hq2, hq⟩ hex
      rw [this]
      exact hT

theorem ahead_far {ops : Array Oper} {j k : Nat} (h : k ∈ ahead ops j) (hk : k < j) : k ∈ ahead2 ops j j := by
  cases j with
  | zero => omega
  | succ j => simp only [ahead2, List.mem_flatMap, List.mem_cons]; exact ⟨k, h, .inl rfl⟩

theorem At.step {h : Hint} {ops : Array Oper} {n : Nat} {fs : List FRow} {aps : List (Nat × Nat)} {e' : Env} {s' : St} (hm : ops.toList.mapM (cRow P h ops n) = some fs) (hd : drawOk ops fs aps = true) (hap : aparts aps e' = true)
    {S0 : Sit} {a0 : Act} (hn : n ≤ a0.tmps.size) (hI0 : Inv B w0 S0) {L : Array Bool} {a : Act} (hA : At P B w0 ops fs e' s' S0 a0 L S a) {j : Nat} (hj : j ∈ Region.ready .any ops L)
    {Q : Exit → Act → World → Prop} {K : Act → World → Prop} (k : ∀ S' a', At P B w0 ops fs e' s' S0 a0 (L.setIfInBounds j true) S' a' → K a' S'.w) : wpOp P ops Q j K a S.w := by
  obtain ⟨hlt, hun, hall⟩ := (ready_iff hA.size).1 hj
  have hseg := seg_len hm
  have hjf : j < fs.length := by rw [hseg]; exact hlt
  have hf : fs[j]? = some fs[j] := List.getElem?_eq_getElem hjf
  have ho : ops[j]? = some ops[j] := Array.getElem?_eq_getElem hlt
  have hc : cRow P h ops n ops[j] = some fs[j] := seg_row hm ho hf
  generalize hfj : fs[j] = f at *
  generalize ops[j] = o at *
  obtain ⟨hd1, hd2⟩ := drawOk_spec hd hf
  obtain ⟨LA, pb, hP, hex, e, hE, hT⟩ := hA.trd
  have hLj := fun i => @set_getD L j i (by rw [hA.size]; exact hlt)
  have hLAj : LA.getD j false = false := by
    cases hq : LA.getD j false with
    | false => rfl
    | true => have := hP.sub j hq; rw [hun] at this; cases this
  have hclosed : Closed ops (L.setIfInBounds j true) := by
    intro i hi m hmi
    rw [hLj] at hi ⊢
    split
    · rfl
    · split at hi
      · rename_i hji
        subst hji
        exact hall m hmi
      · exact hA.closed i hi m hmi
  by_cases hjM : inM ops fs j = true
  · -- a new object that no edge binds to another one
    obtain ⟨f', t, cs, hf', hop⟩ := inM_row hjM
    have hff : f' = f := Option.some.inj (hf'.symm.trans hf)
    subst hff
    obtain ⟨hg1, hg2⟩ := group_spec hd hjM
    obtain ⟨hgd, ⟨d, hdst⟩, huniq⟩ := hg1 j f' hf hjM
    have huse : f'.uses = [] := by simp [FRow.uses, hgd, hop, usesG, usesO]
    obtain ⟨o1, o2, o3⟩ := cRow_op hc (by rw [hop]; rfl)
    rw [hop] at o3
    obtain ⟨z, hoo, hz, hcs⟩ := cOp_new o3
    obtain ⟨zc, hzr, hzrel, hzreal⟩ := run_zeroV (S := S) hz
    have hrc := hzrel.cells hzreal
    rw [hcs] at hrc
    have hdn : d < n := cRow_dst hc hdst
    have hds : d < a.tmps.size := by rw [hA.asize]; omega
    -- the world behind it
    have hI' := hA.inv.stash (.cells zc.cells.toList.toArray t)
    have hX := Ext.stash hA.inv (.cells zc.cells.toList.toArray t)
    have hnd : ∀ i f'' t' cs', L.getD i false = true → LA.getD i false = false → fs[i]? = some f'' → f''.op = .new t' cs' → f''.dst ≠ some d := by
      intro i f'' t' cs' h1 h2 h3 _ hq
      refine huniq i f'' h3 ?_ (hq.trans hdst.symm)
      rintro rfl
      rw [hun] at h1; cases h1
    have hput : (a.put o.dst (.pointer (some ⟨S.w.heap.size, 0, none⟩))).tmps.getD d undef = .pointer (some ⟨S.w.heap.size, 0, none⟩) := by
      rw [← o1, hdst]; exact getD_put_self a d _ hds
    have hPb : ∀ i, L.getD i false = true → LA.getD i false = false → pb i < S.w.heap.size := by
      intro i h1 h2
      obtain ⟨g, t', cs', hg, hgo⟩ := inM_row (hP.mem i h1 h2)
      exact (hA.inv.hid _ _ (hP.blk i g t' cs' h1 h2 hg hgo).1).2.1
    have hP' : Pend P ops fs S0.w.heap.size (S.stash (.cells zc.cells.toList.toArray t)) (a.put o.dst (.pointer (some ⟨S.w.heap.size, 0, none⟩))) (L.setIfInBounds j true) LA (fun i => if i = j then S.w.heap.size else pb i) := by
      refine ⟨?_, hP.size, ?_, ?_, ?_, ?_⟩
      · intro i h1 h2
        rw [hLj] at h1
        by_cases hij : i = j
        · rw [if_pos hij]; exact hA.ext.size
        · rw [if_neg (fun q => hij q.symm)] at h1
          rw [if_neg hij]
          exact hP.new i h1 h2
      · intro i hi
        rw [hLj]
        split
        · rfl
        · exact hP.sub i hi
      · intro i h1 h2
        rw [hLj] at h1
        split at h1
        · rename_i hij; rw [← hij]; exact hjM
        · exact hP.mem i h1 h2
      · intro i g t' cs' h1 h2 hg hgop
        rw [hLj] at h1
        by_cases hij : i = j
        · subst hij
          have hgf : g = f' := Option.some.inj (hg.symm.trans hf)
          subst hgf
          rw [hop] at hgop
          cases hgop
          rw [if_pos rfl]
          refine ⟨.inr ⟨rfl, rfl⟩, ⟨_, heap_alloc_new _ _, hrc.mono hX⟩, ?_⟩
          intro d' hd'
          rw [hdst] at hd'
          cases hd'
          exact hput
        · rw [if_neg (fun q => hij q.symm)] at h1
          rw [if_neg hij]
          obtain ⟨c1, c2, c3⟩ := hP.blk i g t' cs' h1 h2 hg hgop
          refine ⟨(hX.hid _ _ c1).1, c2.mono hX (hX.hid _ _ c1).2, ?_⟩
          intro d' hd'
          rw [getD_put _ _ _ _ (by rw [← o1, hdst]; intro q; exact hnd i g t' cs' h1 h2 hg hgop (hd'.trans q.symm))]
          exact c3 d' hd'
      · intro i i' h1 h2 h3 h4 hq
        rw [hLj] at h1 h3
        by_cases e1 : i = j <;> by_cases e2 : i' = j
        · omega
        · rw [if_neg (fun q => e2 q.symm)] at h3
          rw [if_pos e1, if_neg e2] at hq
          have := hPb i' h3 h4
          omega
        · rw [if_neg (fun q => e1 q.symm)] at h1
          rw [if_neg e1, if_pos e2] at hq
          have := hPb i h1 h2
          omega
        · rw [if_neg (fun q => e1 q.symm)] at h1
          rw [if_neg (fun q => e2 q.symm)] at h3
          rw [if_neg e1, if_neg e2] at hq
          exact hP.inj i i' h1 h2 h3 h4 hq
    -- what is known of its slot is forgotten
    obtain ⟨as, bs, hr1, _, has, hbs, hpw⟩ := rest_split hf hLAj (by rw [hP.size]; exact hlt)
    have hT1 : Trd P B w0 ((rest fs LA).map (·.1)) (kill e [d]) S.st e' s' := by
      rw [hr1] at hT ⊢
      simp only [List.map_append, List.map_cons] at hT ⊢
      refine Trd.forget hdst (by rw [huse]; simp) _ _ _ ?_ hT
      intro g hg hu
      obtain ⟨p, hp, rfl⟩ := List.mem_map.1 hg
      obtain ⟨p1, p2, p3⟩ := has p hp
      have hpl : L.getD p.2 false = false ∨ p.1.uses = [] := by
        cases hq : L.getD p.2 false with
        | false => exact .inl rfl
        | true =>
          obtain ⟨g', t', cs', hg', hgo⟩ := inM_row (hP.mem p.2 hq p3)
          have : g' = p.1 := Option.some.inj (hg'.symm.trans p1)
          subst this
          have := (hg1 p.2 p.1 p1 (hP.mem p.2 hq p3)).1
          right
          simp [FRow.uses, this, hgo, usesG, usesO]
      rcases hpl with hpl | hpl
      · rcases (((drawOk_spec hd p1).2 j f' hf).1 d hdst).2 hu with hq | ⟨_, hq | hq⟩
        · omega
        · omega
        · have := hall p.2 hq
          rw [hpl] at this
          cases this
      · rw [hpl] at hu; cases hu
    have hE1 : EnvOk (S.stash (.cells zc.cells.toList.toArray t)) (kill e [d]) (a.put o.dst (.pointer (some ⟨S.w.heap.size, 0, none⟩))) := by
      intro x
      simp only [Eng.kill]
      split
      · exact .junk _
      · rename_i hx
        rw [getD_put _ _ _ _ (by rw [← o1, hdst]; intro q; cases q; exact hx (by simp))]
        exact (hE x).mono hX
    have hwp : ∀ {S' : Sit}, S'.w = (S.stash (.cells zc.cells.toList.toArray t)).w → K (a.put o.dst (.pointer (some ⟨S.w.heap.size, 0, none⟩))) S'.w → wpOp P ops Q j K a S.w := by
      intro S' hw hK
      unfold wpOp
      simp only [ho]
      rw [if_pos (wanted_sat hc (by rw [hgd]; trivial))]
      left
      unfold Oper.wp
      have hr : (execOp a.eval o).run P S.w = .ok (.value (.pointer (some ⟨S.w.heap.size, 0, none⟩))) (S.stash (.cells zc.cells.toList.toArray t)).w := by
        simp only [execOp, hoo]
        exact run_v (by simp [Instr.alloc, hzr, newVar, newRow, Sit.stash, Sit.ro])
      rw [hr]
      show K _ _
      rw [← hw]
      exact hK
    by_cases hlast : ∃ m, inM ops fs m = true ∧ (L.setIfInBounds j true).getD m false = false
    · refine hwp rfl (k _ _ ⟨by simpa using hA.size, hclosed, hI', hA.ext.trans hX, ⟨LA, _, hP', fun _ => hlast, _, hE1, hT1⟩, by rw [put_size]; exact hA.asize, by rw [put_defers]; exact hA.defers⟩)
    · have hallM : ∀ m, inM ops fs m = true → (L.setIfInBounds j true).getD m false = true := by
        intro m hmM
        cases hq : (L.setIfInBounds j true).getD m false with
        | true => rfl
        | false => exact absurd ⟨m, hmM, hq⟩ hlast
      obtain ⟨S2, e2, q1, q2, q3, q4, q5⟩ := flush hm hd hap (S0 := S0) (L := L.setIfInBounds j true) (by simpa using hA.size) hclosed hallM _ _ LA _ _ (Nat.le_refl _) hI' (hA.ext.trans hX) hP' (by
        intro i h1 h2 b q hb hq
        have h3 := hP'.new i h1 h2
        have := (hI0.hid b q hb).2.1
        omega) hE1 hT1
      refine hwp q1 (k S2 _ ⟨by simpa using hA.size, hclosed, q2, q3, ⟨L.setIfInBounds j true, pb, ⟨fun i h1 h2 => (by rw [h1] at h2; cases h2), by simpa using hA.size, fun _ h => h, fun i h1 h2 => (by rw [h1] at h2; cases h2), fun i _ _ _ h1 h2 => (by rw [h1] at h2; cases h2), fun i _ h1 h2 => (by rw [h1] at h2; cases h2)⟩, fun ⟨i, h1, h2⟩ => (by rw [h1] at h2; cases h2), e2, q4, q5⟩, by rw [put_size]; exact hA.asize, by rw [put_defers]; exact hA.defers⟩)
  · obtain ⟨as, bs, hr1, hr2, has, hbs, hpw⟩ := rest_split hf hLAj (by rw [hP.size]; exact hlt)
    rw [hr1] at hT
    simp only [List.map_append, List.map_cons] at hT
    -- those ahead of it aren't bound to it
    have hnb : ∀ p ∈ as, p.2 ∉ ahead2 ops j j := by
      intro p hp hq
      obtain ⟨p1, p2, p3⟩ := has p hp
      have hl := far_ready hA.closed hall hq
      have hpM := hP.mem p.2 hl p3
      obtain ⟨m, hmM, hmL⟩ := hex ⟨p.2, hl, p3⟩
      have := far_ready hA.closed hall ((group_spec hd hpM).2 j f hf p.2 hpM hq m hmM)
      rw [hmL] at this
      cases this
    have hfree : ∀ p ∈ as, (∀ t, p.1.dst = some t → t ∉ f.uses) ∧ (∀ t, f.dst = some t → t ∉ p.1.uses) ∧ (∀ t, p.1.dst = some t → f.dst ≠ some t) := by
      intro p hp
      obtain ⟨hp1, hp2, hp3⟩ := has p hp
      refine ⟨?_, ?_, ?_⟩
      · intro t ht hu
        rcases ((hd2 p.2 p.1 hp1).1 t ht).2 hu with hq | hq
        · exact hnb p hp (ahead_far hq.2 hq.1)
        · omega
      · intro t ht hu
        rcases (((drawOk_spec hd hp1).2 j f hf).1 t ht).2 hu with hq | ⟨_, hq | hq⟩
        · omega
        · omega
        · exact hnb p hp (ahead_far hq hp2)
      · intro t ht
        rcases ((hd2 p.2 p.1 hp1).1 t ht).1 (by omega) with hq | ⟨_, hq⟩ | ⟨hq, _⟩
        · exact hq
        · exact absurd hq (hnb p hp)
        · omega
    have hT2 := bring hd hap hA.inv hf (fun p hp => ⟨(has p hp).1, (has p hp).2.1⟩) (fun p hp => ⟨(hbs p hp).1, (hbs p hp).2.1⟩) hpw hfree hnb (fun p hp hq => hjM hq.1) hT
    cases hT2 with
    | cons _ _ _ e1 _ _ s1 _ v hle hsem hT3 =>
      refine sem_step (e := e1) ho hc hA.inv (fun t _ => ?_) hsem ?_
      · rcases hle t with h | h
        · rw [h]; exact hE t
        · rw [h]; exact .junk _
      intro S' c hst' hI' hX hrel
      have hLA' := fun i => @set_getD LA j i (by rw [hP.size]; exact hlt)
      refine k S' _ ⟨by simpa using hA.size, hclosed, hI', hA.ext.trans hX, ⟨LA.setIfInBounds j true, pb, ⟨?_, by simpa using hP.size, ?_, ?_, ?_, ?_⟩, ?_, put e f.dst v, ?_, ?_⟩, by rw [put_size]; exact hA.asize, by rw [put_defers]; exact hA.defers⟩
      · intro i h1 h2
        rw [hLj] at h1
        rw [hLA'] at h2
        split at h2
        · cases h2
        · rename_i hne
          rw [if_neg hne] at h1
          exact hP.new i h1 h2
      · intro i hi
        rw [hLA'] at hi
        rw [hLj]
        split
        · rfl
        · rename_i hne
          rw [if_neg hne] at hi
          exact hP.sub i hi
      · intro i h1 h2
        rw [hLj] at h1
        rw [hLA'] at h2
        split at h2
        · cases h2
        · rename_i hne
          rw [if_neg hne] at h1
          exact hP.mem i h1 h2
      · intro i g t cs h1 h2 hg hgop
        rw [hLj] at h1
        rw [hLA'] at h2
        split at h2
        · cases h2
        · rename_i hne
          rw [if_neg hne] at h1
          obtain ⟨c1, c2, c3⟩ := hP.blk i g t cs h1 h2 hg hgop
          refine ⟨(hX.hid _ _ c1).1, c2.mono hX (hX.hid _ _ c1).2, ?_⟩
          intro d hdd
          have hiM := hP.mem i h1 h2
          have hu := ((group_spec hd hiM).1 i g hg hiM).2.2 j f hf (fun q => hne q)
          rw [getD_put _ _ _ _ (fun q => hu (q.trans hdd.symm))]
          exact c3 d hdd
      · intro i i' h1 h2 h3 h4 hq
        rw [hLj] at h1 h3
        rw [hLA'] at h2 h4
        split at h2
        · cases h2
        · rename_i n1
          rw [if_neg n1] at h1
          split at h4
          · cases h4
          · rename_i n2
            rw [if_neg n2] at h3
            exact hP.inj i i' h1 h2 h3 h4 hq
      · rintro ⟨i, h1, h2⟩
        rw [hLj] at h1
        rw [hLA'] at h2
        split at h2
        · cases h2
        · rename_i hne
          rw [if_neg hne] at h1
          obtain ⟨m, hmM, hmL⟩ := hex ⟨i, h1, h2⟩
          refine ⟨m, hmM, ?_⟩
          rw [hLj, if_neg]
          · exact hmL
          · rintro rfl; exact hjM hmM
      · intro t
        by_cases ht : f.dst = some t
        · rw [ht, getD_put_self]
          · simpa [Eng.put, upd] using hrel
          · have hlt' : t < n := cRow_dst hc ht
            rw [hA.asize]
            exact Nat.lt_of_lt_of_le hlt' hn
        · rw [getD_put _ _ _ _ ht, put_get']
          · exact (hE t).mono hX
          · intro hm
            cases hq : f.dst with
            | none => rw [hq] at hm; simp at hm
            | some d => rw [hq] at hm ht; simp at hm; exact ht (by rw [hm])
      · rw [hr2, hst', List.map_append]
        exact hT3

/-- All rows are listed where none may come up. -/
theorem all_listed {ops : Array Oper} {fs : List FRow} {aps : List (Nat × Nat)} (hlen : fs.length = ops.size) (hd : drawOk ops fs aps = true) {L : Array Bool} (hL : L.size = ops.size) (hr : Region.ready .any ops L = []) : ∀ i, i < ops.size → L.getD i false = true := by
  intro i
  induction i using Nat.strongRecOn with
  | ind i ih =>
    intro hi
    cases hq : L.getD i false with
    | true => rfl
    | false =>
      have : i ∈ Region.ready .any ops L := by
        rw [ready_iff hL]
        refine ⟨hi, hq, fun j hj => ?_⟩
        have hlt := (drawOk_spec hd (List.getElem?_eq_getElem (by omega : i < fs.length))).1 j hj
        exact ih j hlt (by omega)
      rw [hr] at this
      cases this

theorem At.done {h : Hint} {ops : Array Oper} {n : Nat} {fs : List FRow} {e' : Env} {s' : St} (hm : ops.toList.mapM (cRow P h ops n) = some fs)
    {S0 : Sit} {a0 : Act} {L : Array Bool} {a : Act} (hA : At P B w0 ops fs e' s' S0 a0 L S a) (hall : ∀ i, i < ops.size → L.getD i false = true) : S.st = s' ∧ EnvOk S e' a := by
  have hlen := seg_len hm
  obtain ⟨LA, pb, hP, hex, e, hE, hT⟩ := hA.trd
  have hall' : ∀ i, i < ops.size → LA.getD i false = true := by
    intro i hi
    cases hq : LA.getD i false with
    | true => rfl
    | false =>
      obtain ⟨m, hmM, hmL⟩ := hex ⟨i, hall i hi, hq⟩
      obtain ⟨g, _, _, hg, _⟩ := inM_row hmM
      have := hall m (by rw [← hlen]; exact (List.getElem?_eq_some_iff.1 hg).1)
      rw [hmL] at this
      cases this
  have hr : rest fs LA = [] := by
    unfold rest
    rw [List.filter_eq_nil_iff]
    intro p hp
    have hi : p.2 < ops.size := by
      obtain ⟨k, hk⟩ := List.getElem?_of_mem hp
      rw [List.getElem?_zipIdx] at hk
      simp only [Option.map_eq_some_iff] at hk
      obtain ⟨g, hg, rfl⟩ := hk
      have := (List.getElem?_eq_some_iff.1 hg).1
      simp only [Nat.zero_add]
      omega
    rw [hall' _ hi]
    simp
  rw [hr] at hT
  cases hT with
  | nil _ _ _ hl => exact ⟨rfl, fun t => by
      rcases hl t with h | h
      · rw [h]; exact hE t
      · rw [h]; exact .junk _⟩

theorem any_order {h : Hint} {ops : Array Oper} {n : Nat} {fs : List FRow} {aps : List (Nat × Nat)} {e' : Env} {s' : St} (hm : ops.toList.mapM (cRow P h ops n) = some fs) (hd : drawOk ops fs aps = true) (hap : aparts aps e' = true)
    {S0 : Sit} {a0 : Act} (hn : n ≤ a0.tmps.size) (hI0 : Inv B w0 S0) {Q : Exit → Act → World → Prop}
    (k : ∀ S' a', S'.st = s' → Inv B w0 S' → Ext S0 S' → EnvOk S' e' a' → a'.tmps.size = a0.tmps.size → a'.defers = a0.defers → Q .normal a' S'.w) :
    ∀ (fuel : Nat) (L : Array Bool) (S : Sit) (a : Act), At P B w0 ops fs e' s' S0 a0 L S a → (List.range ops.size).countP (fun i => !L.getD i false) ≤ fuel → wpAny P .any ops Q fuel L a S.w := by
  have hlen := seg_len hm
  have hend : ∀ (L : Array Bool) (S : Sit) (a : Act), At P B w0 ops fs e' s' S0 a0 L S a → Region.ready .any ops L = [] → Q .normal a S.w := by
    intro L S a hA hr
    obtain ⟨h1, h2⟩ := hA.done hm (all_listed hlen hd hA.size hr)
    exact k S a h1 hA.inv hA.ext h2 hA.asize hA.defers
  intro fuel
  induction fuel with
  | zero =>
    intro L S a hA hc
    have hr : Region.ready .any ops L = [] := by
      refine List.eq_nil_iff_forall_not_mem.2 fun j hj => ?_
      obtain ⟨hlt, hun, _⟩ := (ready_iff hA.size).1 hj
      have : 0 < (List.range ops.size).countP (fun i => !L.getD i false) := List.countP_pos_iff.2 ⟨j, by simpa using hlt, by rw [hun]; rfl⟩
      omega
    exact ⟨hr, hend L S a hA hr⟩
  | succ fuel ih =>
    intro L S a hA hc
    refine ⟨hend L S a hA, ?_⟩
    intro j hj
    refine hA.step hm hd hap hn hI0 hj ?_
    intro S' a' hA'
    refine ih _ S' a' hA' ?_
    obtain ⟨hlt, hun, _⟩ := (ready_iff hA.size).1 hj
    have := countP_lt (p := fun i => !L.getD i false) (p' := fun i => !(L.setIfInBounds j true).getD i false) (l := List.range ops.size) (x := j) (by simpa using hlt) (by rw [hun]; rfl)
      (by rw [set_getD (by rw [hA.size]; exact hlt), if_pos rfl]; rfl) (fun y hy => by
        rw [set_getD (by rw [hA.size]; exact hlt)] at hy
        split at hy
        · cases hy
        · exact hy)
    omega

/-- A region that draws its order. -/
theorem region_any {h : Hint} {id : Nat} {ops : Array Oper} {n : Nat} {fs : List FRow} {e e' : Env} {s s' : St} (hT : Trc P B w0 fs e s e' s') (hm : ops.toList.mapM (cRow P h ops n) = some fs)
    (hp : P.follows .mixedOrders = true) {aps : List (Nat × Nat)} (hd : drawOk ops fs aps = true) (hap : aparts aps e' = true) {a : Act} (hst : S.st = s) (hI : Inv B w0 S) (hE : EnvOk S e a) (hn : n ≤ a.tmps.size) {Q : Exit → Act → World → Prop}
    (k : ∀ S' a', S'.st = s' → Inv B w0 S' → Ext S S' → EnvOk S' e' a' → a'.tmps.size = a.tmps.size → a'.defers = a.defers → Q .normal a' S'.w) : (Code.region id ops true).wp P Q a S.w := by
  have hno : ∀ i, (Array.replicate ops.size false).getD i false = false := by
    intro i
    rw [Array.getD_eq_getD_getElem?, Array.getElem?_replicate]
    split <;> rfl
  have hr : (rest fs (Array.replicate ops.size false)).map (·.1) = fs := by
    unfold rest
    rw [List.filter_eq_self.2 (fun p _ => by rw [hno]; rfl)]
    simp
  refine wp_region_any hp ?_
  refine any_order (S0 := S) (a0 := a) hm hd hap hn hI k ops.size _ S.drew a ⟨by simp, ?_, hI.drew, Ext.drew S, ⟨Array.replicate ops.size false, fun _ => 0, ⟨fun i h1 _ => (by rw [hno i] at h1; cases h1), by simp, fun i h => h, fun i h1 _ => (by rw [hno i] at h1; cases h1), fun i _ _ _ h1 => (by rw [hno i] at h1; cases h1), fun i _ h1 => (by rw [hno i] at h1; cases h1)⟩, fun ⟨i, h1, _⟩ => (by rw [hno i] at h1; cases h1), e, fun t => (hE t).mono (Ext.drew S), ?_⟩, rfl, rfl⟩ ?_
  · intro i hi
    rw [hno i] at hi
    cases hi
  · rw [hr]
    have h2 := hT.trd
    rw [← hst] at h2
    exact h2
  · refine Nat.le_trans List.countP_le_length ?_
    simp

end
end Go.Proofs.YtboejpobmpfifaaGreatDoor.Eng
