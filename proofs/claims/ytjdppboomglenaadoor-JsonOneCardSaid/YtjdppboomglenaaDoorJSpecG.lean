/-
  Two right values have one JSON just if they are one: the plain law. No condition.
-/
import Derived.Test.YtjdppboomglenaaDoorJSpecF
namespace Go.Proofs.YtjdppboomglenaaDoor.Eng
open Go
set_option linter.unusedSimpArgs false
set_option linter.unusedVariables false

/-- A decimal digit. -/
def isDig (x : UInt8) : Bool := decide (48 ≤ x.toNat) && decide (x.toNat ≤ 57)
/-- What follows begins with no digit. -/
def noDig : List UInt8 → Prop
  | [] => True
  | x :: _ => isDig x = false

/-! ### Numbers -/
theorem decDigits_step (u : Nat) : Lib.decDigits u = if u < 10 then [UInt8.ofNat (48 + u)] else Lib.decDigits (u / 10) ++ [UInt8.ofNat (48 + u % 10)] := by
  rw [Lib.decDigits]; rfl

theorem dig_toNat {k : Nat} (h : k < 10) : (UInt8.ofNat (48 + k)).toNat = 48 + k := by rw [UInt8.toNat_ofNat']; omega

theorem decDigits_dig : ∀ (u : Nat), ∀ x ∈ Lib.decDigits u, isDig x = true := by
  intro u
  induction u using Nat.strongRecOn with
  | _ u ih =>
    intro x hx
    rw [decDigits_step] at hx
    split at hx
    · simp at hx
      subst hx
      have := dig_toNat (k := u) (by omega)
      simp [isDig] at this ⊢
      omega
    · rcases List.mem_append.1 hx with hx | hx
      · exact ih (u / 10) (by omega) x hx
      · simp at hx
        subst hx
        have := dig_toNat (k := u % 10) (by omega)
        simp [isDig] at this ⊢
        omega

def valD (l : List UInt8) : Nat := l.foldl (fun a x => 10 * a + (x.toNat - 48)) 0
theorem valD_dec : ∀ u, valD (Lib.decDigits u) = u := by
  intro u
  induction u using Nat.strongRecOn with
  | _ u ih =>
    rw [decDigits_step]
    split
    · have := dig_toNat (k := u) (by omega)
      simp only [valD, List.foldl_cons, List.foldl_nil, this]
      omega
    · have := dig_toNat (k := u % 10) (by omega)
      have hi := ih (u / 10) (by omega)
      simp only [valD] at hi
      simp only [valD, List.foldl_append, List.foldl_cons, List.foldl_nil, this, hi]
      omega

theorem dec_pre : ∀ {a b x y : List UInt8}, (∀ c ∈ a, isDig c = true) → (∀ c ∈ b, isDig c = true) → noDig x → noDig y → a ++ x = b ++ y → a = b ∧ x = y
  | [], [], _, _, _, _, _, _, h => ⟨rfl, h⟩
  | [], c :: b, x, y, _, hb, hx, _, h => by
    exfalso
    simp only [List.nil_append, List.cons_append] at h
    subst h
    have := hb c (by simp)
    simp only [noDig, this] at hx
    cases hx
  | c :: a, [], x, y, ha, _, _, hy, h => by
    exfalso
    simp only [List.nil_append, List.cons_append] at h
    subst h
    have := ha c (by simp)
    simp only [noDig, this] at hy
    cases hy
  | c :: a, d :: b, x, y, ha, hb, hx, hy, h => by
    simp only [List.cons_append, List.cons.injEq] at h
    obtain ⟨rfl, h⟩ := h
    obtain ⟨rfl, rfl⟩ := dec_pre (fun e he => ha e (by simp [he])) (fun e he => hb e (by simp [he])) hx hy h
    exact ⟨rfl, rfl⟩

theorem decDigits_inj {u v : Nat} (h : Lib.decDigits u = Lib.decDigits v) : u = v := by
  rw [← valD_dec u, ← valD_dec v, h]

theorem itoa_pre {n m : Int} {x y : List UInt8} (hx : noDig x) (hy : noDig y) (h : Lib.itoa n ++ x = Lib.itoa m ++ y) : n = m ∧ x = y := by
  have h45 : ∀ u z w, ¬ (45 :: z = Lib.decDigits u ++ w) := by
    intro u z w hq
    have hne : Lib.decDigits u ≠ [] := by rw [decDigits_step]; split <;> simp
    obtain ⟨c, r, hcr⟩ := List.exists_cons_of_ne_nil hne
    rw [hcr] at hq
    simp only [List.cons_append, List.cons.injEq] at hq
    have := decDigits_dig u c (by rw [hcr]; simp)
    rw [← hq.1] at this
    revert this; decide
  unfold Lib.itoa at h
  split at h
  · split at h
    · simp only [List.cons_append, List.cons.injEq, true_and] at h
      obtain ⟨h1, h2⟩ := dec_pre (decDigits_dig _) (decDigits_dig _) hx hy h
      have := decDigits_inj h1
      exact ⟨by omega, h2⟩
    · exact absurd (by simpa using h) (h45 m.toNat _ y)
  · split at h
    · exact absurd (by simpa using h.symm) (h45 n.toNat _ x)
    · obtain ⟨h1, h2⟩ := dec_pre (decDigits_dig _) (decDigits_dig _) hx hy h
      have := decDigits_inj h1
      exact ⟨by omega, h2⟩

theorem itoa_head (n : Int) : ∃ c r, Lib.itoa n = c :: r ∧ (c = 45 ∨ isDig c = true) := by
  unfold Lib.itoa
  split
  · exact ⟨45, _, rfl, .inl rfl⟩
  · have hne : Lib.decDigits n.toNat ≠ [] := by rw [decDigits_step]; split <;> simp
    obtain ⟨c, r, hcr⟩ := List.exists_cons_of_ne_nil hne
    exact ⟨c, r, hcr, .inr (decDigits_dig n.toNat c (by rw [hcr]; simp))⟩

/-! ### Texts -/
theorem plainR_cases (c : Nat) : plainR c = 0 ∨ (plainR c ≠ 117 ∧ plainR c < 256 ∧ plainR c ≠ 0) := by
  unfold plainR
  repeat' split
  all_goals omega
theorem plainR_inj {c d : Nat} (hc : plainR c ≠ 0) (h : plainR c = plainR d) : c = d := by
  unfold plainR at h hc
  repeat' split at h
  all_goals (first | omega | skip)
  all_goals simp_all
theorem hexR_inj {a b : Nat} (ha : a < 16) (hb : b < 16) {x y : List UInt8} (h : hexR a ++ x = hexR b ++ y) : a = b ∧ x = y := by
  have e : ∀ k, k < 16 → ∃ c : UInt8, hexR k = [c] ∧ c.toNat = if k < 10 then 48 + k else 87 + k := by
    intro k hk
    unfold hexR
    split
    · exact ⟨_, rfl, by rw [UInt8.toNat_ofNat']; omega⟩
    · exact ⟨_, rfl, by rw [UInt8.toNat_ofNat']; omega⟩
  obtain ⟨c, hc, hcn⟩ := e a ha
  obtain ⟨d, hd, hdn⟩ := e b hb
  rw [hc, hd] at h
  simp only [List.cons_append, List.nil_append, List.cons.injEq] at h
  obtain ⟨rfl, h⟩ := h
  refine ⟨?_, h⟩
  rw [hcn] at hdn
  split at hdn <;> split at hdn <;> omega

theorem qByte_pre {c d : UInt8} {x y : List UInt8} (h : qByte c ++ x = qByte d ++ y) : c = d ∧ x = y := by
  have hc := c.toNat_lt
  have hd := d.toNat_lt
  have key : c.toNat = d.toNat → c = d := fun h => UInt8.toNat_inj.1 h
  unfold qByte at h
  split at h
  · rename_i h1
    have hpc := (plainR_cases c.toNat).resolve_left h1
    split at h
    · rename_i h2
      have hpd := (plainR_cases d.toNat).resolve_left h2
      simp only [List.cons_append, List.nil_append, List.cons.injEq, true_and] at h
      have e := congrArg UInt8.toNat h.1
      rw [UInt8.toNat_ofNat', UInt8.toNat_ofNat'] at e
      exact ⟨key (plainR_inj h1 (by omega)), h.2⟩
    · split at h
      · exfalso
        simp only [List.cons_append, List.nil_append, List.cons.injEq, true_and] at h
        have e := congrArg UInt8.toNat h.1
        rw [UInt8.toNat_ofNat'] at e
        have : (117 : UInt8).toNat = 117 := rfl
        omega
      · rename_i h2 h3
        exfalso
        simp only [List.cons_append, List.nil_append, List.cons.injEq] at h
        apply h2
        rw [← h.1]
        decide
  · rename_i h1
    split at h
    · rename_i h3
      split at h
      · rename_i h2
        exfalso
        have hpd := (plainR_cases d.toNat).resolve_left h2
        simp only [List.cons_append, List.nil_append, List.cons.injEq, true_and] at h
        have e := congrArg UInt8.toNat h.1
        rw [UInt8.toNat_ofNat'] at e
        have : (117 : UInt8).toNat = 117 := rfl
        omega
      · split at h
        · rename_i h2 h4
          simp only [List.cons_append, List.nil_append, List.cons.injEq, true_and, List.append_assoc] at h
          obtain ⟨e1, h⟩ := hexR_inj (by omega) (by omega) h
          obtain ⟨e2, h⟩ := hexR_inj (by omega) (by omega) h
          exact ⟨key (by omega), h⟩
        · rename_i h2 h4
          exfalso
          simp only [List.cons_append, List.nil_append, List.cons.injEq] at h
          apply h2
          rw [← h.1]
          decide
    · rename_i h3
      split at h
      · exfalso
        simp only [List.cons_append, List.nil_append, List.cons.injEq] at h
        apply h1
        rw [h.1]
        decide
      · split at h
        · exfalso
          simp only [List.cons_append, List.nil_append, List.cons.injEq] at h
          apply h1
          rw [h.1]
          decide
        · simp only [List.cons_append, List.nil_append, List.cons.injEq] at h
          exact h

theorem qByte_head (c : UInt8) : ∃ a r, qByte c = a :: r ∧ a ≠ 34 := by
  unfold qByte
  split
  · exact ⟨92, _, rfl, by decide⟩
  · rename_i h
    split
    · exact ⟨92, _, rfl, by decide⟩
    · refine ⟨c, _, rfl, ?_⟩
      rintro rfl
      exact h (by decide)

theorem body_pre : ∀ {b d x y : List UInt8}, b.flatMap qByte ++ 34 :: x = d.flatMap qByte ++ 34 :: y → b = d ∧ x = y
  | [], [], x, y, h => by simp at h; exact ⟨rfl, h⟩
  | [], e :: d, x, y, h => by
    exfalso
    obtain ⟨a, r, hr, ha⟩ := qByte_head e
    simp only [List.flatMap_nil, List.nil_append, List.flatMap_cons, hr, List.cons_append, List.cons.injEq] at h
    exact ha h.1.symm
  | e :: b, [], x, y, h => by
    exfalso
    obtain ⟨a, r, hr, ha⟩ := qByte_head e
    simp only [List.flatMap_nil, List.nil_append, List.flatMap_cons, hr, List.cons_append, List.cons.injEq] at h
    exact ha h.1
  | e :: b, g :: d, x, y, h => by
    simp only [List.flatMap_cons, List.append_assoc] at h
    obtain ⟨e1, h2⟩ := qByte_pre h
    subst e1
    obtain ⟨rfl, rfl⟩ := body_pre h2
    exact ⟨rfl, rfl⟩

theorem quoteR_pre {b d x y : List UInt8} (h : quoteR b ++ x = quoteR d ++ y) : b = d ∧ x = y := by
  simp only [quoteR, List.cons_append, List.append_assoc, List.nil_append, List.cons.injEq, true_and] at h
  exact body_pre h

/-! ### Values -/
/-- The sign with which a value's JSON begins. -/
def headOf (k : Int) (c : UInt8) : Prop :=
  (k = 0 ∧ c = 110) ∨ (k = 1 ∧ (c = 116 ∨ c = 102)) ∨ (k = 2 ∧ (c = 45 ∨ isDig c = true)) ∨ (k = 3 ∧ c = 34) ∨ (k = 4 ∧ c = 91) ∨ (k = 5 ∧ c = 123)

theorem headOf_one {k k' : Int} {c : UInt8} (h : headOf k c) (h' : headOf k' c) : k = k' := by
  have d : ∀ x : UInt8, x = 110 ∨ x = 116 ∨ x = 102 ∨ x = 45 ∨ x = 34 ∨ x = 91 ∨ x = 123 → isDig x = false := by
    rintro x (rfl | rfl | rfl | rfl | rfl | rfl | rfl) <;> decide
  unfold headOf at h h'
  rcases h with ⟨rfl, rfl⟩ | ⟨rfl, rfl | rfl⟩ | ⟨rfl, rfl | h⟩ | ⟨rfl, rfl⟩ | ⟨rfl, rfl⟩ | ⟨rfl, rfl⟩ <;>
    rcases h' with ⟨rfl, h'⟩ | ⟨rfl, h' | h'⟩ | ⟨rfl, h' | h'⟩ | ⟨rfl, h'⟩ | ⟨rfl, h'⟩ | ⟨rfl, h'⟩ <;>
    first | rfl | (exfalso; revert h'; decide) | (exfalso; rw [h'] at h; revert h; decide)

theorem encJ_head {v : JV} {d : Int} (h : treeV v d = true) : ∃ c r, encJ v = c :: r ∧ headOf v.kind c := by
  obtain ⟨k, n, s, l, f⟩ := v
  simp only [JV.kind]
  rw [treeV] at h
  split at h
  · cases h
  · rw [encJ]
    by_cases h0 : k = 0
    · rw [if_pos h0]; exact ⟨_, _, rfl, .inl ⟨h0, rfl⟩⟩
    rw [if_neg h0] at h ⊢
    by_cases h1 : k = 1
    · rw [if_pos h1]
      unfold boolV
      split
      · exact ⟨_, _, rfl, .inr (.inl ⟨h1, .inl rfl⟩)⟩
      · exact ⟨_, _, rfl, .inr (.inl ⟨h1, .inr rfl⟩)⟩
    rw [if_neg h1] at h ⊢
    by_cases h2 : k = 2
    · rw [if_pos h2]
      obtain ⟨c, r, e, hc⟩ := itoa_head n
      exact ⟨c, r, e, .inr (.inr (.inl ⟨h2, hc⟩))⟩
    rw [if_neg h2] at h ⊢
    by_cases h3 : k = 3
    · rw [if_pos h3]
      exact ⟨_, _, rfl, .inr (.inr (.inr (.inl ⟨h3, rfl⟩)))⟩
    rw [if_neg h3] at h ⊢
    by_cases h4 : k = 4
    · rw [if_pos h4]
      exact ⟨_, _, rfl, .inr (.inr (.inr (.inr (.inl ⟨h4, rfl⟩))))⟩
    rw [if_neg h4] at h ⊢
    by_cases h5 : k = 5
    · rw [if_pos h5]
      exact ⟨_, _, rfl, .inr (.inr (.inr (.inr (.inr ⟨h5, rfl⟩))))⟩
    rw [if_neg h5] at h
    cases h

theorem lists_pre {l : List JV} (d : Int) : ∀ {m : List JV} {i : Nat} {x y : List UInt8}, (∀ v ∈ l, ∀ w x y, treeV w d = true → noDig x → noDig y → encJ v ++ x = encJ w ++ y → v = w ∧ x = y) →
    (∀ v ∈ l, treeV v d = true) → (∀ w ∈ m, treeV w d = true) → encVs l i ++ 93 :: x = encVs m i ++ 93 :: y → l = m ∧ x = y := by
  have hsep : ∀ (l : List JV) (i : Nat) (x : List UInt8), 0 < i → noDig (encVs l i ++ 93 :: x) := by
    intro l i x hi
    cases l with
    | nil => simp only [encVs, List.nil_append, noDig]; decide
    | cons v l => simp only [encVs, if_pos hi, List.cons_append, List.nil_append, noDig]; decide
  have hne : ∀ (w : JV) (m : List JV) (i : Nat) (x y : List UInt8), treeV w d = true → 93 :: x ≠ encVs (w :: m) i ++ 93 :: y := by
    intro w m i x y hw h
    obtain ⟨c, r, hr, hc⟩ := encJ_head hw
    by_cases hi : 0 < i
    · simp only [encVs, if_pos hi, List.cons_append, List.nil_append, List.cons.injEq] at h
      exact absurd h.1 (by decide)
    · simp only [encVs, if_neg hi, List.cons_append, List.nil_append, hr, List.cons.injEq] at h
      rw [← h.1] at hc
      unfold headOf at hc
      revert hc
      have : isDig 93 = false := by decide
      rw [this]
      rintro (⟨_, h⟩ | ⟨_, h | h⟩ | ⟨_, h | h⟩ | ⟨_, h⟩ | ⟨_, h⟩ | ⟨_, h⟩) <;> revert h <;> decide
  induction l with
  | nil =>
    intro m i x y _ _ hm h
    cases m with
    | nil => simp [encVs] at h; exact ⟨rfl, h⟩
    | cons w m => exact absurd (by simpa [encVs] using h) (hne w m i x y (hm w (by simp)))
  | cons v l ih =>
    intro m i x y hinj hl hm h
    cases m with
    | nil => exact absurd (by simpa [encVs] using h.symm) (hne v l i y x (hl v (by simp)))
    | cons w m =>
      simp only [encVs, List.append_assoc] at h
      have h' := List.append_cancel_left h
      obtain ⟨rfl, h2⟩ := hinj v (by simp) w _ _ (hm w (by simp)) (hsep l (i + 1) x (by omega)) (hsep m (i + 1) y (by omega)) h'
      obtain ⟨rfl, h3⟩ := ih (fun v hv => hinj v (by simp [hv])) (fun v hv => hl v (by simp [hv])) (fun w hw => hm w (by simp [hw])) h2
      exact ⟨rfl, h3⟩

theorem pairs_pre {l : List (List UInt8 × JV)} (d : Int) : ∀ {m : List (List UInt8 × JV)} {i : Nat} {x y : List UInt8}, (∀ v ∈ l, ∀ w x y, treeV w d = true → noDig x → noDig y → encJ v.2 ++ x = encJ w ++ y → v.2 = w ∧ x = y) →
    (∀ v ∈ l, rightV v.1 = true) → (∀ w ∈ m, rightV w.1 = true) → (∀ w ∈ m, treeV w.2 d = true) → encPs l i ++ 125 :: x = encPs m i ++ 125 :: y → l = m ∧ x = y := by
  have hsep : ∀ (l : List (List UInt8 × JV)) (i : Nat) (x : List UInt8), 0 < i → noDig (encPs l i ++ 125 :: x) := by
    intro l i x hi
    cases l with
    | nil => simp only [encPs, List.nil_append, noDig]; decide
    | cons v l => simp only [encPs, if_pos hi, List.cons_append, List.nil_append, noDig]; decide
  have hne : ∀ (w : List UInt8 × JV) (m : List (List UInt8 × JV)) (i : Nat) (x y : List UInt8), 125 :: x ≠ encPs (w :: m) i ++ 125 :: y := by
    intro w m i x y h
    by_cases hi : 0 < i
    · simp only [encPs, if_pos hi, List.cons_append, List.nil_append, List.cons.injEq] at h
      exact absurd h.1 (by decide)
    · simp only [encPs, if_neg hi, List.cons_append, List.nil_append, quoteV, List.cons.injEq] at h
      exact absurd h.1 (by decide)
  induction l with
  | nil =>
    intro m i x y _ _ _ hm h
    cases m with
    | nil => simp [encPs] at h; exact ⟨rfl, h⟩
    | cons w m => exact absurd (by simpa [encPs] using h) (hne w m i x y)
  | cons v l ih =>
    intro m i x y hinj hl hr hm h
    cases m with
    | nil => exact absurd (by simpa [encPs] using h.symm) (hne v l i y x)
    | cons w m =>
      simp only [encPs, List.append_assoc] at h
      have h' := List.append_cancel_left h
      rw [quote_ref _ (hl v (by simp)), quote_ref _ (hr w (by simp))] at h'
      obtain ⟨e1, h'⟩ := quoteR_pre h'
      simp only [List.cons_append, List.nil_append, List.cons.injEq, true_and] at h'
      obtain ⟨e2, h2⟩ := hinj v (by simp) w.2 _ _ (hm w (by simp)) (hsep l (i + 1) x (by omega)) (hsep m (i + 1) y (by omega)) h'
      obtain ⟨rfl, h3⟩ := ih (fun v hv => hinj v (by simp [hv])) (fun v hv => hl v (by simp [hv])) (fun w hw => hr w (by simp [hw])) (fun w hw => hm w (by simp [hw])) h2
      obtain ⟨a, b⟩ := v
      obtain ⟨a', b'⟩ := w
      simp only at e1 e2
      subst e1 e2
      exact ⟨rfl, h3⟩

theorem enc_pre : ∀ (v w : JV) (d : Int) (x y : List UInt8), treeV v d = true → treeV w d = true → noDig x → noDig y → encJ v ++ x = encJ w ++ y → v = w ∧ x = y
  | .mk k n s l f, w, d, x, y, hv, hw, hx, hy, h => by
    obtain ⟨c, r, hr, hc⟩ := encJ_head hv
    obtain ⟨c', r', hr', hc'⟩ := encJ_head hw
    have hcc : c = c' := by
      rw [hr, hr'] at h
      simp only [List.cons_append, List.cons.injEq] at h
      exact h.1
    subst hcc
    have hk := headOf_one hc hc'
    obtain ⟨k', n', s', l', f'⟩ := w
    simp only [JV.kind] at hk
    subst hk
    have ihl : ∀ v ∈ l, ∀ w x y, treeV v (d - 1) = true → treeV w (d - 1) = true → noDig x → noDig y → encJ v ++ x = encJ w ++ y → v = w ∧ x = y := fun v hv w x y => enc_pre v w (d - 1) x y
    have ihf : ∀ v ∈ f, ∀ w x y, treeV v.2 (d - 1) = true → treeV w (d - 1) = true → noDig x → noDig y → encJ v.2 ++ x = encJ w ++ y → v.2 = w ∧ x = y := fun v hv w x y => enc_pre v.2 w (d - 1) x y
    rw [treeV] at hv hw
    split at hv
    · cases hv
    rename_i hu
    split at hw
    · cases hw
    rename_i hu'
    simp only [not_or, Bool.not_eq_false] at hu hu'
    have un := hu.2
    have un' := hu'.2
    unfold unusedV at un un'
    rw [encJ, encJ] at h
    by_cases h0 : k = 0
    · subst h0
      simp at un un' h
      grind
    rw [if_neg h0] at hv hw
    rw [if_neg h0, if_neg h0] at h
    by_cases h1 : k = 1
    · subst h1
      simp at un un' hv hw h
      unfold boolV at h
      grind
    rw [if_neg h1] at hv hw
    rw [if_neg h1, if_neg h1] at h
    by_cases h2 : k = 2
    · subst h2
      simp only [if_true] at h
      obtain ⟨rfl, rfl⟩ := itoa_pre hx hy h
      simp at un un'
      grind
    rw [if_neg h2] at hv hw
    rw [if_neg h2, if_neg h2] at h
    by_cases h3 : k = 3
    · subst h3
      simp only [if_true] at h hv hw
      rw [quote_ref _ hv, quote_ref _ hw] at h
      obtain ⟨rfl, rfl⟩ := quoteR_pre h
      simp at un un'
      grind
    rw [if_neg h3] at hv hw
    rw [if_neg h3, if_neg h3] at h
    by_cases h4 : k = 4
    · subst h4
      simp only [if_true] at h hv hw
      simp only [List.cons_append, List.append_assoc, List.nil_append, List.cons.injEq, true_and] at h
      obtain ⟨rfl, rfl⟩ := lists_pre (d - 1) (fun v hm w x y => ihl v hm w x y (treeVs_mem hv v hm)) (treeVs_mem hv) (treeVs_mem hw) h
      simp at un un'
      grind
    rw [if_neg h4] at hv hw
    rw [if_neg h4, if_neg h4] at h
    by_cases h5 : k = 5
    · subst h5
      simp only [if_true, Bool.and_eq_true] at h hv hw
      simp only [List.cons_append, List.append_assoc, List.nil_append, List.cons.injEq, true_and] at h
      obtain ⟨rfl, rfl⟩ := pairs_pre (d - 1) (fun v hm w x y => ihf v hm w x y (treePs_mem hv.2 v hm)) (keysV_mem hv.1) (keysV_mem hw.1) (treePs_mem hw.2) h
      simp at un un'
      grind
    rw [if_neg h5] at hv
    cases hv
termination_by v => SizeOf.sizeOf v
decreasing_by
  · have := List.sizeOf_lt_of_mem hv
    simp; omega
  · have := List.sizeOf_lt_of_mem hv
    obtain ⟨a, b⟩ := v
    simp at this ⊢; omega

theorem encJ_inj {v w : JV} {d : Int} (hv : treeV v d = true) (hw : treeV w d = true) (h : encJ v = encJ w) : v = w :=
  (enc_pre v w d [] [] hv hw trivial trivial (by simpa using h)).1

end Go.Proofs.YtjdppboomglenaaDoor.Eng
