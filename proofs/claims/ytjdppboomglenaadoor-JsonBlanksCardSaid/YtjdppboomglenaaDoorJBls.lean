/-
  JSON: what the functions do, one behind the other. No condition.
-/
import Derived.Test.YtjdppboomglenaaDoorJPars
/-
  JSON, read: what stands behind what was read changes nothing; what is cut short is refused. No condition.
-/
namespace Go.Proofs.YtjdppboomglenaaDoor.Eng
open Go
set_option linter.unusedSimpArgs false
set_option linter.unusedVariables false

theorem drop_app {α : Type} (p : α → Bool) : ∀ {l : List α} (q : List α), l.dropWhile p ≠ [] → (l ++ q).dropWhile p = l.dropWhile p ++ q ∧ (l ++ q).takeWhile p = l.takeWhile p
  | [], q, h => absurd rfl h
  | x :: l, q, h => by
    cases hx : p x with
    | true =>
      simp only [List.dropWhile_cons, hx, if_true] at h
      have := drop_app p q h
      simp [List.dropWhile_cons, List.takeWhile_cons, hx, this.1, this.2]
    | false => simp [List.dropWhile_cons, List.takeWhile_cons, hx]
theorem skp_app {l : List UInt8} (q : List UInt8) (h : skp l ≠ []) : skp (l ++ q) = skp l ++ q := (drop_app isBl q h).1
theorem hd0_app {l : List UInt8} (q : List UInt8) (h : l ≠ []) : hd0 (l ++ q) = hd0 l := by
  obtain ⟨c, t, rfl⟩ := List.exists_cons_of_ne_nil h
  rfl
theorem drop1_app {l : List UInt8} (q : List UInt8) (h : l ≠ []) : (l ++ q).drop 1 = l.drop 1 ++ q := by
  obtain ⟨c, t, rfl⟩ := List.exists_cons_of_ne_nil h
  rfl
theorem pval_skp (d : Nat) (l : List UInt8) : pval d (skp l) = pval d l := by
  cases d <;> simp only [pval, skp_skp]
theorem skp_blanks (b x : List UInt8) (hb : ∀ c ∈ b, isBl c = true) : skp (b ++ x) = skp x := by
  induction b with
  | nil => rfl
  | cons c b ih =>
    have hc := hb c (by simp)
    have := ih (fun y hy => hb y (by simp [hy]))
    simp only [skp] at this ⊢
    simp [List.dropWhile_cons, hc, this]
theorem bl_noDig {c : UInt8} (h : isBl c = true) : isDig c = false := by
  simp only [isBl, Bool.or_eq_true, decide_eq_true_eq] at h
  rcases h with ((rfl | rfl) | rfl) | rfl <;> decide
theorem noDig_bl (b x : List UInt8) (hb : ∀ c ∈ b, isBl c = true) (hx : noDig x) : noDig (b ++ x) := by
  cases b with
  | nil => exact hx
  | cons c b => exact bl_noDig (hb c (by simp))
theorem skp_enc {v : JV} {d : Int} (h : treeV v d = true) (x : List UInt8) : skp (encJ v ++ x) = encJ v ++ x := by
  obtain ⟨c, r, hr, hc⟩ := encJ_head h
  rw [hr]
  exact skp_id (headOf_bl hc).1 _

theorem pread_blanks (v : JV) (h : treeV v 12 = true) (b : List UInt8) (hb : ∀ c ∈ b, isBl c = true) (hl : (b ++ encJ v ++ b).length ≤ 4000) : pread (b ++ encJ v ++ b) 4000 = (v, -1, 0) := by
  have h1 : pval 12 (b ++ encJ v ++ b) = .ok v b := by
    rw [← pval_skp, List.append_assoc, skp_blanks b _ hb, skp_enc h]
    have := noDig_bl b [] hb trivial
    rw [List.append_nil] at this
    exact val_enc v 12 b h this
  have h2 : skp b = [] := by
    have := skp_blanks b [] hb
    rw [List.append_nil] at this
    exact this
  unfold pread
  rw [if_neg (by omega), h1]
  simp [h2]

theorem pread_more (v : JV) (h : treeV v 12 = true) (b : List UInt8) (hb : ∀ c ∈ b, isBl c = true) (hl : (b ++ encJ v ++ b).length < 4000) :
    pread (b ++ encJ v ++ b ++ [93]) 4000 = (jNull, (((encJ v).length + 2 * b.length : Nat) : Int), 4) := by
  have h1 : pval 12 (b ++ encJ v ++ b ++ [93]) = .ok v (b ++ [93]) := by
    rw [← pval_skp, List.append_assoc, List.append_assoc, skp_blanks b _ hb, skp_enc h]
    exact val_enc v 12 (b ++ [93]) h (noDig_bl b [93] hb (nd 93 (by decide) []))
  have h2 : skp (b ++ [93]) = [93] := skp_blanks b [93] hb
  unfold pread
  rw [if_neg (by simp only [List.length_append, List.length_singleton] at hl ⊢; omega), h1]
  simp [h2]
  omega

/-! ### More behind it -/
theorem decV_app {l : List UInt8} (q : List UInt8) (hl : l ≠ []) (h : ¬ ((decV l 0).1 = 65533 ∧ (decV l 0).2 = 1)) : decV (l ++ q) 0 = decV l 0 ∧ (decV l 0).2 ≤ l.length := by
  have hp : 0 < l.length := List.length_pos_iff.2 hl
  have hle := decV_le l 0 hp
  have hs := sizeV_dec l 0 hp
  rw [if_neg (fun e => h (by rw [e]; exact ⟨rfl, rfl⟩))] at hs
  have hb := (size_bytes l 0 hp (by rw [hs]; simp only; omega)).1
  have hok := decV_ok l 0 hp
  rw [hs] at hb
  simp only [List.drop_zero] at hb
  have hlen : (encV (decV l 0).1).length = (decV l 0).2 := by rw [hb, List.length_take]; omega
  have hspl : l ++ q = encV (decV l 0).1 ++ (l.drop (decV l 0).2 ++ q) := by
    rw [hb, ← List.append_assoc, List.take_append_drop]
  refine ⟨?_, by omega⟩
  rw [hspl, decV_enc _ _ hok, hlen]

theorem unitR_app {l : List UInt8} (q : List UInt8) (h : 6 ≤ l.length) : unitR (l ++ q) = unitR l := by
  match l, h with
  | a :: u :: d1 :: d2 :: d3 :: d4 :: r, _ => rfl

theorem escR_app {l : List UInt8} (q : List UInt8) (h : (escR l).2 ≠ 0) : escR (l ++ q) = escR l ∧ (escR l).2 ≤ l.length := by
  refine ⟨?_, (escR_ok l h).choose_spec.2.2.1⟩
  have h2 : 2 ≤ l.length := by
    obtain ⟨_, _, _, a, b⟩ := escR_ok l h
    omega
  have e1 : (l ++ q)[1]? = l[1]? := List.getElem?_append_left (by omega)
  have hl1 : 1 < l.length := by omega
  have hl2 : 1 < (l ++ q).length := by rw [List.length_append]; omega
  unfold escR at h ⊢
  rw [e1]
  by_cases c1 : (shortR ((l[1]?).getD 0)).2 = true
  · rw [if_pos ⟨hl2, c1⟩, if_pos ⟨hl1, c1⟩]
  · have n1 : ¬ (1 < l.length ∧ (shortR ((l[1]?).getD 0)).2 = true) := fun k => c1 k.2
    have n2 : ¬ (1 < (l ++ q).length ∧ (shortR ((l[1]?).getD 0)).2 = true) := fun k => c1 k.2
    rw [if_neg n1] at h
    rw [if_neg n1, if_neg n2]
    have hu := unitR_le l
    by_cases c2 : unitR l < 0 ∨ (56320 ≤ unitR l ∧ unitR l ≤ 57343)
    · rw [if_pos c2] at h
      exact absurd rfl h
    · rw [if_neg c2] at h
      have h6 : 6 ≤ l.length := hu.2.2 (by omega)
      rw [unitR_app q h6, if_neg c2, if_neg c2]
      by_cases c3 : unitR l < 55296 ∨ 57343 < unitR l
      · rw [if_pos c3, if_pos c3]
      · rw [if_neg c3] at h ⊢
        rw [if_neg c3]
        by_cases c4 : unitR (l.drop 6) < 56320 ∨ 57343 < unitR (l.drop 6)
        · rw [if_pos c4] at h
          exact absurd rfl h
        · have h66 := (unitR_le (l.drop 6)).2.2 (by omega)
          rw [List.drop_append_of_le_length h6, unitR_app q h66, if_neg c4]

theorem ubody_app : ∀ (f : Nat) (l acc r l' : List UInt8), ubody f l acc = .ok r l' → ∀ (q : List UInt8) (f' : Nat), f ≤ f' → ubody f' (l ++ q) acc = .ok r (l' ++ q)
  | 0, l, acc, r, l', h, q, f', _ => by simp [ubody] at h
  | f + 1, l, acc, r, l', h, q, f', hf => by
    obtain ⟨k, rfl⟩ : ∃ k, f' = k + 1 := ⟨f' - 1, by omega⟩
    rw [ubody] at h ⊢
    split at h
    · cases h
    rename_i hl
    have hl2 : l ++ q ≠ [] := by simp [hl]
    rw [if_neg hl2]
    split at h
    · rename_i h34
      obtain ⟨e, hle⟩ := decV_app q hl (by rintro ⟨a, _⟩; omega)
      cases h
      rw [e, if_pos h34, drop1_app q hl]
    rename_i h34
    split at h
    · cases h
    rename_i h32
    split at h
    · cases h
    rename_i hbad
    obtain ⟨e, hle⟩ := decV_app q hl hbad
    rw [e, if_neg h34, if_neg h32, if_neg hbad]
    split at h
    · rename_i h92
      rw [if_pos h92]
      split at h
      · cases h
      rename_i hes
      obtain ⟨e2, hle2⟩ := escR_app q hes
      rw [e2, if_neg hes, List.drop_append_of_le_length hle2]
      exact ubody_app f _ _ _ _ h q k (by omega)
    · rename_i h92
      rw [if_neg h92, List.drop_append_of_le_length hle]
      exact ubody_app f _ _ _ _ h q k (by omega)

theorem begs_split {l w : List UInt8} (h : begs l w = true) : l = w ++ l.drop w.length := by
  simp only [begs, Bool.and_eq_true, decide_eq_true_eq] at h
  have := List.take_append_drop w.length l
  rw [h.2] at this
  exact this.symm
theorem begs_app (w x : List UInt8) : begs (w ++ x) w = true := by simp [begs]

theorem punq_app {l r l' : List UInt8} (h : punq l = .ok r l') (q : List UInt8) : punq (l ++ q) = .ok r (l' ++ q) := by
  unfold punq at h ⊢
  split at h
  · rename_i hb
    have hs := begs_split hb
    have hne : l ≠ [] := by rintro rfl; revert hb; decide
    rw [if_pos (by rw [hs, List.append_assoc]; exact begs_app _ _), drop1_app q hne]
    exact ubody_app _ _ _ _ _ h q _ (by simp)
  · cases h

theorem pword_app {l l' : List UInt8} {v : JV} (h : pword l = .ok v l') (q : List UInt8) : pword (l ++ q) = .ok v (l' ++ q) := by
  unfold pword at h
  split at h
  · rename_i hb
    have hs := begs_split hb
    cases h
    rw [hs]
    simp [pword, begs, wNull, jNull]
  split at h
  · rename_i hb
    have hs := begs_split hb
    cases h
    rw [hs]
    simp [pword, begs, wNull, wTrue, jBool]
  split at h
  · rename_i hb
    have hs := begs_split hb
    cases h
    rw [hs]
    simp [pword, begs, wNull, wTrue, wFalse, jBool]
  · cases h

theorem numT_app {l : List UInt8} (q : List UInt8) (h : l ≠ []) : numT (l ++ q) = numT l ++ q := by
  obtain ⟨c, t, rfl⟩ := List.exists_cons_of_ne_nil h
  simp only [List.cons_append, numT]
  split <;> rfl

theorem pnum_app {l l' : List UInt8} {v : JV} (h : pnum l = .ok v l') (hl : l' ≠ []) (q : List UInt8) : pnum (l ++ q) = .ok v (l' ++ q) := by
  have hne : l ≠ [] := by
    rintro rfl
    revert h
    simp [pnum, dgs, numT]
  have hr : rst l = l' := by
    unfold pnum at h
    repeat' split at h
    all_goals cases h
    all_goals rfl
  have hrne : (numT l).dropWhile isDig ≠ [] := by
    have : (numT l).dropWhile isDig = l' := hr
    rw [this]; exact hl
  obtain ⟨d1, d2⟩ := drop_app isDig q hrne
  have e1 : dgs (l ++ q) = dgs l := by unfold dgs; rw [numT_app q hne]; exact d2
  have e2 : rst (l ++ q) = rst l ++ q := by unfold rst; rw [numT_app q hne]; exact d1
  have e3 : isNeg (l ++ q) = isNeg l := by unfold isNeg; rw [hd0_app q hne]
  unfold pnum at h ⊢
  rw [e1, e2, e3]
  split at h
  · cases h
  rename_i c1
  rw [if_neg c1]
  split at h
  · cases h
  rename_i c2
  rw [if_neg c2]
  split at h
  · cases h
  rename_i c3
  rw [if_neg c3]
  cases h
  rfl

theorem psign_app {c : UInt8} {l l' : List UInt8} {u : Unit} (h : psign c l = .ok u l') (q : List UInt8) : psign c (l ++ q) = .ok u (l' ++ q) ∧ skp l ≠ [] := by
  unfold psign at h ⊢
  cases hs : skp l with
  | nil => rw [hs] at h; cases h
  | cons x t =>
    rw [hs] at h
    simp only at h
    split at h
    · rename_i hx
      cases h
      refine ⟨?_, by simp⟩
      rw [skp_app q (by rw [hs]; simp), hs]
      simp [hx]
    · cases h

theorem skp_ne {l : List UInt8} (h : skp l ≠ []) : l ≠ [] := by rintro rfl; exact h rfl

theorem plist_app {α : Type} {p1 : List UInt8 → List α → PR α} (en : UInt8) (hp : ∀ l acc v l', p1 l acc = .ok v l' → l' ≠ [] → ∀ q, p1 (l ++ q) acc = .ok v (l' ++ q)) :
    ∀ (f : Nat) (l : List UInt8) (acc r : List α) (l' : List UInt8), plist p1 en f l acc = .ok r l' → ∀ (q : List UInt8) (f' : Nat), f ≤ f' → plist p1 en f' (l ++ q) acc = .ok r (l' ++ q)
  | 0, l, acc, r, l', h, q, f', _ => by simp [plist] at h
  | f + 1, l, acc, r, l', h, q, f', hf => by
    obtain ⟨k, rfl⟩ : ∃ k, f' = k + 1 := ⟨f' - 1, by omega⟩
    rw [plist] at h ⊢
    cases h1 : p1 l acc with
    | err l1 e => rw [h1] at h; cases h
    | ok v l1 =>
      rw [h1] at h
      simp only at h
      split at h
      · rename_i h44
        have hsk : skp l1 ≠ [] := by intro e; rw [e] at h44; revert h44; decide
        rw [hp l acc v l1 h1 (skp_ne hsk) q]
        simp only
        rw [skp_app q hsk, hd0_app q hsk, if_pos h44, drop1_app q hsk]
        exact plist_app en hp f _ _ _ _ h q k (by omega)
      · rename_i h44
        cases hs : psign en l1 with
        | err l2 e => rw [hs] at h; cases h
        | ok u l2 =>
          rw [hs] at h
          obtain ⟨hs2, hsk⟩ := psign_app hs q
          rw [hp l acc v l1 h1 (skp_ne hsk) q]
          simp only
          rw [skp_app q hsk, hd0_app q hsk, if_neg h44, hs2]
          cases h
          rfl

theorem plist0_app {α : Type} {p1 : List UInt8 → List α → PR α} (en : UInt8) (hen : en ≠ 0) (hfi : ∀ l acc, Fine (p1 l acc) l) (hp : ∀ l acc v l', p1 l acc = .ok v l' → l' ≠ [] → ∀ q, p1 (l ++ q) acc = .ok v (l' ++ q))
    {l l' : List UInt8} {r : List α} (h : plist0 p1 en l = .ok r l') (q : List UInt8) : plist0 p1 en (l ++ q) = .ok r (l' ++ q) := by
  have hsk : skp l ≠ [] := by
    intro e
    unfold plist0 at h
    rw [e, if_neg (by exact fun k => hen k.symm)] at h
    rw [plist] at h
    have hf := hfi [] []
    cases h1 : p1 [] [] with
    | err l1 e => rw [h1] at h; cases h
    | ok v l1 =>
      rw [h1] at h hf
      have : l1 = [] := List.suffix_nil.1 hf.2
      subst this
      simp only at h
      rw [if_neg (by decide)] at h
      cases h
  unfold plist0 at h ⊢
  rw [skp_app q hsk, hd0_app q hsk]
  split at h
  · rename_i he
    rw [if_pos he, drop1_app q hsk]
    cases h
    rfl
  · rename_i he
    rw [if_neg he]
    exact plist_app en hp _ _ _ _ _ h q _ (by simp)

theorem ppair_app {pv : List UInt8 → PR JV} (hp : ∀ l v l', pv l = .ok v l' → l' ≠ [] → ∀ q, pv (l ++ q) = .ok v (l' ++ q)) {l : List UInt8} {acc : List (List UInt8 × JV)} {p : List UInt8 × JV} {l' : List UInt8}
    (h : ppair pv l acc = .ok p l') (hl : l' ≠ []) (q : List UInt8) : ppair pv (l ++ q) acc = .ok p (l' ++ q) := by
  unfold ppair at h
  split at h
  · cases h
  rename_i h34
  have h34' : hd0 (skp l) = 34 := by simpa using h34
  have hsk : skp l ≠ [] := by intro e; rw [e] at h34'; revert h34'; decide
  cases h1 : punq (skp l) with
  | err l1 e => rw [h1] at h; cases h
  | ok k l1 =>
    rw [h1] at h
    simp only at h
    split at h
    · cases h
    rename_i ha
    cases h2 : psign 58 l1 with
    | err l2 e => rw [h2] at h; cases h
    | ok u l2 =>
      rw [h2] at h
      simp only at h
      cases h3 : pv l2 with
      | err l3 e => rw [h3] at h; cases h
      | ok v l3 =>
        rw [h3] at h
        cases h
        unfold ppair
        rw [skp_app q hsk, hd0_app q hsk, if_neg h34, punq_app h1 q]
        simp only
        rw [if_neg ha, (psign_app h2 q).1]
        simp only
        rw [hp l2 v l' h3 hl q]
        rfl

theorem pval_app : ∀ (d : Nat) (l : List UInt8) (v : JV) (l' : List UInt8), pval d l = .ok v l' → (l' ≠ [] ∨ hd0 (skp l) = 91 ∨ hd0 (skp l) = 123) → ∀ q, pval d (l ++ q) = .ok v (l' ++ q)
  | 0, l, v, l', h, _, q => by
    unfold pval at h
    split at h <;> cases h
  | d + 1, l, v, l', h, hc, q => by
    unfold pval at h
    split at h
    · cases h
    rename_i hsk
    unfold pval
    rw [skp_app q hsk, if_neg (by simp [hsk]), hd0_app q hsk]
    split at h
    · rename_i c34
      rw [if_pos c34]
      cases h1 : punq (skp l) with
      | err l1 e => rw [h1] at h; cases h
      | ok k l1 =>
        rw [h1] at h
        cases h
        rw [punq_app h1 q]
        rfl
    rename_i c34
    rw [if_neg c34]
    split at h
    · rename_i cn
      rw [if_pos cn]
      refine pnum_app h ?_ q
      rcases hc with hc | hc | hc
      · exact hc
      · rw [hc] at cn; exact absurd cn (by decide)
      · rw [hc] at cn; exact absurd cn (by decide)
    rename_i cn
    rw [if_neg cn]
    split at h
    · rename_i c91
      rw [if_pos c91, drop1_app q hsk]
      cases h1 : plist0 (fun l _ => pval d l) 93 ((skp l).drop 1) with
      | err l1 e => rw [h1] at h; cases h
      | ok vs l1 =>
        rw [h1] at h
        cases h
        rw [plist0_app 93 (by decide) (fun l _ => pval_fine d l) (fun l _ v l' h hl q => pval_app d l v l' h (.inl hl) q) h1 q]
        rfl
    rename_i c91
    rw [if_neg c91]
    split at h
    · rename_i c123
      rw [if_pos c123, drop1_app q hsk]
      cases h1 : plist0 (ppair (pval d)) 125 ((skp l).drop 1) with
      | err l1 e => rw [h1] at h; cases h
      | ok vs l1 =>
        rw [h1] at h
        cases h
        rw [plist0_app 125 (by decide) (ppair_fine (pval_fine d)) (fun l acc p l' h hl q => ppair_app (fun l v l' h hl q => pval_app d l v l' h (.inl hl) q) h hl q) h1 q]
        rfl
    · rename_i c123
      rw [if_neg c123]
      exact pword_app h q

/-- What is cut short is refused. -/
theorem pread_cut (v : JV) (h : treeV v 12 = true) (hk : 4 ≤ v.kind) (m : Nat) (hm : m < (encJ v).length) (hl : (encJ v).length ≤ 4000) :
    (pread ((encJ v).take m) 4000).2.2 ≠ 0 ∧ 0 ≤ (pread ((encJ v).take m) 4000).2.1 ∧ (pread ((encJ v).take m) 4000).2.1 ≤ (m : Int) := by
  have hlen : ((encJ v).take m).length = m := by rw [List.length_take]; omega
  have hfi := pval_fine 12 ((encJ v).take m)
  unfold pread
  rw [if_neg (by omega)]
  cases hp : pval 12 ((encJ v).take m) with
  | err l e =>
    rw [hp] at hfi
    simp only
    exact ⟨hfi.1 _ _ rfl, by omega, by omega⟩
  | ok v' l' =>
    simp only
    split
    · exfalso
      obtain ⟨c, r, hr, hc⟩ := encJ_head h
      have hc2 : c = 91 ∨ c = 123 := by
        unfold headOf at hc
        rcases hc with ⟨k, _⟩ | ⟨k, _⟩ | ⟨k, _⟩ | ⟨k, _⟩ | ⟨_, rfl⟩ | ⟨_, rfl⟩
        · omega
        · omega
        · omega
        · omega
        · exact .inl rfl
        · exact .inr rfl
      cases m with
      | zero => simp [pval, skp] at hp
      | succ m =>
        have ht : (encJ v).take (m + 1) = c :: r.take m := by rw [hr]; rfl
        have hsk : skp ((encJ v).take (m + 1)) = c :: r.take m := by rw [ht]; exact skp_id (headOf_bl hc).1 _
        have := pval_app 12 _ v' l' hp (.inr (by rw [hsk]; exact hc2)) ((encJ v).drop (m + 1))
        rw [List.take_append_drop] at this
        have h2 := val_enc v 12 [] h trivial
        rw [List.append_nil, this] at h2
        simp only [PR.ok.injEq, List.append_eq_nil_iff] at h2
        have h3 := congrArg List.length h2.2.2
        simp at h3
        omega
    · simp only
      exact ⟨by decide, by omega, by omega⟩

end Go.Proofs.YtjdppboomglenaaDoor.Eng

/-
  JsonBlanks in the program. No condition.
-/
namespace Go.Proofs.YtjdppboomglenaaDoor.Eng
open Go
set_option linter.unusedSimpArgs false
set_option linter.unusedVariables false

attribute [local simp] evC_reg evC_regD evR_cons evR_nil runR_some regK_some evC_ret evC_skip evC_exit Out_seq Out_blk Out_some seqQ_norm seqQ_ret seqQ_exit blkQ_norm blkQ_ret blkQ_exit loopQ_norm loopQ_ret loopQ_exit
attribute [local simp] stepR evOp put upd_apply X.ev initEnv cells_agg cells_int cells_str cells_bool cells_sl cells_ptr cells_pnil cells_fn cells_map vc_length vc_take vc_plain vc_und toVs_plain toPs_plain toVs_und toPs_und takeN evBin isSh intBin strBin callK resOf packR V.plain plainL V.und undL scK kill dstsO dstsL dstsR ite_some ite_pair ite_vbool evUn evLoad evLen V.real finLoop_false quietK_false kill_none

/-- A blank for a byte. -/
def blOf (x : UInt8) : UInt8 := if x.toNat % 4 = 0 then 32 else if x.toNat % 4 = 1 then 9 else if x.toNat % 4 = 2 then 10 else 13
theorem blOf_bl (x : UInt8) : isBl (blOf x) = true := by
  unfold blOf
  split
  · rfl
  split
  · rfl
  split <;> rfl

theorem slc_bl (k : Nat) (hk : k < 4) (y : UInt8) (hy : y = if k = 0 then 32 else if k = 1 then 9 else if k = 2 then 10 else 13) :
    evSlcS (.str [32, 9, 10, 13]) (some (.int .u8 (k : Int))) (some (.int .u8 ((k : Int) + 1))) = some (.str [y]) := by
  subst hy
  have : k = 0 ∨ k = 1 ∨ k = 2 ∨ k = 3 := by omega
  rcases this with rfl | rfl | rfl | rfl <;> rfl

theorem tmodN (a b : Nat) : ((a : Int)).tmod (b : Int) = ((a % b : Nat) : Int) := by
  rw [Int.tmod_eq_emod_of_nonneg (by omega)]; rfl
theorem tmod4 (a : Nat) : ((a : Int)).tmod 4 = ((a % 4 : Nat) : Int) := tmodN a 4

theorem slcN (b : List UInt8) (k : Nat) (h : k ≤ b.length) : evSlcS (.str b) none (some (.int .i64 (k : Int))) = some (.str (b.take k)) := by
  simp [evSlcS, bnd, h]
theorem asBytes_get (l : List UInt8) (i : Nat) : (asBytes l)[i]? = (l[i]?).map fun x => V.int .u8 x.toNat := by simp [asBytes]

set_option maxRecDepth 20000 in
theorem blLoop (l : List UInt8) (hl : l.length ≤ 1000) : ∀ (m i : Nat) (env : Env) (s : St), l.length - i = m → i ≤ l.length → env 1 = .sl .no (asBytes l) → env 10 = .int .i64 i → env 9 = .str ((l.map blOf).take i) →
    Out (evC G (.loop false af6l0) env s) (fun ex env' s' => ex = .exit 0 ∧ s' = s ∧ env' 9 = .str (l.map blOf) ∧ env' 2 = env 2 ∧ env' 3 = env 3 ∧ env' 7 = env 7) := by
  intro m
  induction m with
  | zero =>
    intro i env s hm hi h1 h10 h9
    have : i = l.length := by omega
    subst this
    refine Out_loop G false _ _ af6l0.eq_1 _ _ _ ?_
    simp [h1, h10, asBytes_length]
    refine Out_cond _ _ _ _ _ _ _ rfl (fun h => by simp at h) (fun _ => ?_)
    simp [h9]
    exact List.take_of_length_le (by simp)
  | succ m ih =>
    intro i env s hm hi h1 h10 h9
    have hlt : i < l.length := by omega
    refine Out_loop G false _ _ af6l0.eq_1 _ _ _ ?_
    simp [h1, h10, asBytes_length]
    refine Out_cond _ _ _ _ _ _ _ rfl (fun _ => ?_) (fun h => by simp at h; omega)
    have hg : (asBytes l)[((i : Nat) : Int).toNat]? = some (.int .u8 (l[i]).toNat) := by rw [Int.toNat_natCast, asBytes_get, List.getElem?_eq_getElem hlt]; rfl
    have hg' : (asBytes l)[i]? = some (.int .u8 (l[i]).toNat) := by rw [asBytes_get, List.getElem?_eq_getElem hlt]; rfl
    have hw : IntKind.i64.wrap ((i : Int) + 1) = ((i + 1 : Nat) : Int) := by rw [wrap_in (by omega) (by omega)]; omega
    have hr : (((l[i]).toNat : Int)).tmod 4 = (((l[i]).toNat % 4 : Nat) : Int) := tmod4 _
    have hk : (l[i]).toNat % 4 < 4 := Nat.mod_lt _ (by decide)
    have hs := slc_bl _ hk (blOf l[i]) rfl
    have hw2 : IntKind.u8.wrap ((((l[i]).toNat % 4 : Nat) : Int) + 1) = (((l[i]).toNat % 4 : Nat) : Int) + 1 := by rw [wrapU8 (by omega)]; omega
    have hmx : i64max = 9223372036854775807 := rfl
    have hlen : ((((l.map blOf).take i).length + [blOf l[i]].length : Nat) : Int) ≤ 9223372036854775807 := by simp; omega
    have htk : (l.map blOf).take i ++ [blOf l[i]] = (l.map blOf).take (i + 1) := by
      rw [List.take_add_one, List.getElem?_map, List.getElem?_eq_getElem hlt]
      rfl
    have hadd : strBin .add ((l.map blOf).take i) [blOf l[i]] = some (.str ((l.map blOf).take (i + 1))) := by
      unfold strBin
      simp only
      rw [if_pos (by rw [hmx]; exact hlen), htk]
    generalize (l[i]).toNat % 4 = k at hr hk hs hw2
    simp [-strBin, h1, h10, h9, ↓hg, ↓hg', hr, hw2, hs, hadd, hw]
    refine Out.mono (ih (i + 1) _ s (by omega) (by omega) ?_ ?_ ?_) ?_
    · simp [h1]
    · simp
    · simp
    · rintro ex env' s' ⟨a, b, c, d, e, f⟩
      refine ⟨a, b, c, ?_, ?_, ?_⟩
      · rw [d]; simp
      · rw [e]; simp
      · rw [f]; simp

theorem bas1 (vs : List JV) : ∀ o ∈ vs.map (fun v => AObj.cells 25 (vc v)), o.und (vs.map (fun v => AObj.cells 25 (vc v))).length 0 = true ∧ o.kind ≠ 4 := by
  intro o ho
  obtain ⟨v, _, rfl⟩ := List.mem_map.1 ho
  exact ⟨by simp [AObj.und], by simp [AObj.kind]⟩

theorem blanks_spec (v : JV) (hv : v.ok) (l : List UInt8) (hl : l.length ≤ 9223372036854775807) (n : Nat) (hn : n < 65536) :
    call G 6 [toV v, .sl .no (asBytes l), .int .u16 n] ⟨[], []⟩ = some (.bool true, ⟨[], []⟩) := by
  have hf := fun s => fewT_spec v hv s
  have hr := fun s => rightT_spec v hv s
  have ha := awake_spec
  have hk0 : (vc v).head? = some (.int .i64 v.kind) := by cases v; rfl
  by_cases hfew : 0 ≤ fewV v 60 ∧ treeV v 12 = true ∧ 4 ≤ v.kind ∧ l.length ≤ 20
  · obtain ⟨f1, t1, k1, l1⟩ := hfew
    obtain ⟨hsm, _, hlen⟩ := few_ok v hv 60 f1
    have he := fun s => encode_spec v hv (fun _ => ⟨hsm, by omega⟩) s
    simp only [t1, if_true] at he hr
    have hne := encJ_ne v 12 t1
    have hpos : 0 < (encJ v).length := List.length_pos_iff.2 hne
    have k2 : ¬ v.kind < 4 := by omega
    have l2 : ¬ 20 < l.length := by omega
    have l3 : ¬ (20 : Int) < (l.length : Int) := by omega
    refine call_out (F := af6) rfl rfl ?_
    simp [af6, af6b, ha, hf, f1, hr, hk0, k2, asBytes_length, l2, l3]
    refine Out_cond _ _ _ _ _ _ _ rfl (fun h => by simp at h) (fun _ => ?_)
    simp [he, hne]
    by_cases hl39 : (encJ v).length ≤ 3900
    · have hB : ∀ c ∈ l.map blOf, isBl c = true := by
        intro c hc
        obtain ⟨x, _, rfl⟩ := List.mem_map.1 hc
        exact blOf_bl x
      have hBl : (l.map blOf).length = l.length := by simp
      have hloop := blLoop l (by omega) l.length 0
      have hp1 := parse_spec (q := l.map blOf ++ encJ v ++ l.map blOf) (by simp; omega) ⟨[.cells 25 (vc v)], []⟩ (bas1 [v])
      rw [pread_blanks v t1 _ hB (by simp; omega)] at hp1
      have hp2 := parse_spec (q := l.map blOf ++ encJ v ++ l.map blOf ++ [93]) (by simp; omega) ⟨[.cells 25 (vc v), .cells 25 (vc v)], []⟩ (bas1 [v, v])
      rw [pread_more v t1 _ hB (by simp; omega)] at hp2
      have hmx : i64max = 9223372036854775807 := rfl
      have ha1 : strBin .add (l.map blOf) (encJ v) = some (.str (l.map blOf ++ encJ v)) := by
        unfold strBin; simp only; rw [if_pos (by rw [hmx]; simp; omega)]
      have ha2 : strBin .add (l.map blOf ++ encJ v) (l.map blOf) = some (.str (l.map blOf ++ encJ v ++ l.map blOf)) := by
        unfold strBin; simp only; rw [if_pos (by rw [hmx]; simp; omega)]
      have ha3 : strBin .add (l.map blOf ++ encJ v ++ l.map blOf) [93] = some (.str (l.map blOf ++ encJ v ++ l.map blOf ++ [93])) := by
        unfold strBin; simp only; rw [if_pos (by rw [hmx]; simp; omega)]
      have hk : n % (encJ v).length < (encJ v).length := Nat.mod_lt _ hpos
      have hcut := pread_cut v t1 k1 (n % (encJ v).length) hk (by omega)
      have hp3 := parse_spec (q := (encJ v).take (n % (encJ v).length)) (by simp; omega) ⟨[.cells 25 (vc v), .cells 25 (vc v), .cells 25 (vc jNull)], []⟩ (bas1 [v, v, jNull])
      have hrem : ((n : Int)).tmod ((encJ v).length : Int) = ((n % (encJ v).length : Nat) : Int) := tmodN _ _
      have hsl : evSlcS (.str (encJ v)) none (some (.int .i64 ((n % (encJ v).length : Nat) : Int))) = some (.str ((encJ v).take (n % (encJ v).length))) := slcN _ _ (by omega)
      have hwn : IntKind.i64.wrap (n : Int) = n := wrap_in (by omega) (by omega)
      have hw3 : IntKind.i64.wrap (2 * (l.length : Int)) = 2 * (l.length : Int) := wrap_in (by omega) (by omega)
      have hw4 : IntKind.i64.wrap (((encJ v).length : Int) + 2 * (l.length : Int)) = ((encJ v).length : Int) + 2 * (l.length : Int) := wrap_in (by omega) (by omega)
      have hss := fun s => same_spec v v hv s
      have hsv : sameV v v = true := (sameV_iff v v).2 rfl
      rw [hsv] at hss
      rw [hBl] at hp2
      generalize n % (encJ v).length = k at hk hcut hp3 hrem hsl
      generalize pread ((encJ v).take k) 4000 = p3 at hcut hp3
      obtain ⟨w3, m3, g3⟩ := p3
      simp only at hcut hp3
      obtain ⟨c1, c2, c3⟩ := hcut
      generalize h1 : l.map blOf ++ encJ v = s1 at ha1 ha2 ha3 hp1 hp2
      generalize h2 : s1 ++ l.map blOf = s2 at ha2 ha3 hp1 hp2
      generalize h3 : s2 ++ [93] = s3 at ha3 hp2
      have h39 : ¬ (3900 : Int) < ((encJ v).length : Int) := by omega
      have hv1 := putL_zv v
      have hv2 := putL_zv jNull
      have hv3 := putL_zv w3
      refine Out_cond _ _ _ _ _ _ _ rfl (fun h => by simp at h; omega) (fun _ => ?_)
      simp
      refine Out.mono (hloop _ _ (by omega) (by omega) ?_ ?_ ?_) ?_
      · simp
      · simp
      · simp
      rintro ex env s' ⟨rfl, rfl, q9, q2, q3, q7⟩
      simp at q2 q3 q7
      have hne0 : ¬ ((encJ v).length : Int) = 0 := by omega
      simp [-strBin, q9, q7, q2, q3, ha1, ha2, ha3, hp1, hp2, hp3, evStore, hv1, hv2, hv3, vc_one, hwn, hrem, hsl, hne, hne0, hss, hw3, hw4, c1, c2, c3]
      simp [fin]
    · refine Out_cond _ _ _ _ _ _ _ rfl (fun _ => ?_) (fun h => by simp at h; omega)
      simp [hpos]
      simp [fin]
  · refine call_out (F := af6) rfl rfl ?_
    simp [af6, af6b, ha, hf, hr, hk0, asBytes_length]
    refine Out_cond _ _ _ _ _ _ _ rfl (fun _ => ?_) (fun h => ?_)
    · simp [ha]
      simp [fin]
    · exfalso
      apply hfew
      simp at h
      grind

end Go.Proofs.YtjdppboomglenaaDoor.Eng
