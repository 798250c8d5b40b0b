/-
  A text in quotes by the reference is the program's: by bytes and by runes. No condition.
-/
import Derived.Test.YtjdppboomglenaaDoorJSpecB
namespace Go.Proofs.YtjdppboomglenaaDoor.Eng
open Go
set_option linter.unusedSimpArgs false
set_option linter.unusedVariables false

theorem take_drop_getD (b : List UInt8) (p : Nat) : ∀ n, p + n ≤ b.length → (b.drop p).take n = (List.range n).map fun i => b.getD (p + i) 0
  | 0, _ => by simp
  | n + 1, h => by
    rw [List.range_succ, List.map_append, ← take_drop_getD b p n (by omega), List.take_add_one]
    congr 1
    rw [List.getElem?_drop, List.getElem?_eq_getElem (by omega)]
    simp [List.getD_eq_getElem?_getD, List.getElem?_eq_getElem (show p + n < b.length by omega)]

theorem ofNat_eq {n : Nat} {x : UInt8} (h : n = x.toNat) : UInt8.ofNat n = x := by subst h; exact UInt8.ofNat_toNat

theorem size_bytes (b : List UInt8) (p : Nat) (hp : p < b.length) (h : (sizeV b p).1 ≠ 0) :
    encV (sizeV b p).2 = (b.drop p).take (sizeV b p).1 ∧ (((sizeV b p).1 = 1 ∧ (sizeV b p).2 = (b.getD p 0).toNat ∧ (b.getD p 0).toNat < 128) ∨ (128 ≤ (sizeV b p).2 ∧ ∀ x ∈ (b.drop p).take (sizeV b p).1, 128 ≤ x.toNat)) := by
  have e1 := byte_lt (b.getD p 0)
  have hx : ∀ n, n < b.length + 1 - p → (b.drop p).take n = (List.range n).map fun i => b.getD (p + i) 0 := fun n hn => take_drop_getD b p n (by omega)
  revert h
  unfold sizeV
  simp only
  split
  · rename_i hc
    intro _
    rw [hx 1 (by omega)]
    refine ⟨?_, .inl ⟨rfl, rfl, hc⟩⟩
    rw [encV, if_pos hc, ofNat_eq rfl]
    simp [List.range_succ, List.getD_eq_getElem?_getD]
  · rename_i hc
    split
    · rename_i h2
      split
      · intro h; simp at h
      · rename_i hl
        simp only [contV, Nat.reduceAdd]
        have e2 := byte_lt (b.getD (p + 1) 0)
        split
        · intro h; simp at h
        · rename_i w hw
          split at hw
          · cases hw
          · rename_i hd
            have hw' := Option.some.inj hw
            subst hw'
            split
            · intro h; simp at h
            · rename_i hw2
              intro _
              rw [hx 2 (by omega)]
              simp only [List.range_succ, List.range_zero, List.nil_append, List.map_append, List.map_cons, List.map_nil, Nat.add_zero]
              refine ⟨?_, .inr ⟨by omega, ?_⟩⟩
              · rw [encV, if_neg (by omega), if_pos (by omega)]
                simp only [List.cons_append, List.nil_append, List.cons.injEq, and_true]
                exact ⟨ofNat_eq (by omega), ofNat_eq (by omega)⟩
              · intro x hx
                simp only [List.cons_append, List.nil_append, List.mem_cons, List.not_mem_nil, or_false] at hx
                rcases hx with rfl | rfl <;> omega
    · split
      · rename_i h3
        split
        · intro h; simp at h
        · rename_i hl
          simp only [contV, Nat.reduceAdd]
          have e2 := byte_lt (b.getD (p + 1) 0)
          have e3 := byte_lt (b.getD (p + 2) 0)
          split
          · intro h; simp at h
          · rename_i w hw
            split at hw
            · cases hw
            · rename_i hd
              split at hw
              · cases hw
              · rename_i hd2
                have hw' := Option.some.inj hw
                subst hw'
                split
                · intro h; simp at h
                · rename_i hw2
                  intro _
                  rw [hx 3 (by omega)]
                  simp only [List.range_succ, List.range_zero, List.nil_append, List.map_append, List.map_cons, List.map_nil, Nat.add_zero, List.cons_append, List.append_assoc]
                  refine ⟨?_, .inr ⟨by omega, ?_⟩⟩
                  · rw [encV, if_neg (by omega), if_neg (by omega), if_pos (by omega)]
                    simp only [List.cons_append, List.nil_append, List.cons.injEq, and_true]
                    exact ⟨ofNat_eq (by omega), ofNat_eq (by omega), ofNat_eq (by omega)⟩
                  · intro x hx
                    simp only [List.cons_append, List.nil_append, List.mem_cons, List.not_mem_nil, or_false] at hx
                    rcases hx with rfl | rfl | rfl <;> omega
      · split
        · rename_i h4
          split
          · intro h; simp at h
          · rename_i hl
            simp only [contV, Nat.reduceAdd]
            have e2 := byte_lt (b.getD (p + 1) 0)
            have e3 := byte_lt (b.getD (p + 2) 0)
            have e4 := byte_lt (b.getD (p + 3) 0)
            split
            · intro h; simp at h
            · rename_i w hw
              split at hw
              · cases hw
              · rename_i hd
                split at hw
                · cases hw
                · rename_i hd2
                  split at hw
                  · cases hw
                  · rename_i hd3
                    have hw' := Option.some.inj hw
                    subst hw'
                    split
                    · intro h; simp at h
                    · rename_i hw2
                      intro _
                      rw [hx 4 (by omega)]
                      simp only [List.range_succ, List.range_zero, List.nil_append, List.map_append, List.map_cons, List.map_nil, Nat.add_zero, List.cons_append, List.append_assoc]
                      refine ⟨?_, .inr ⟨by omega, ?_⟩⟩
                      · rw [encV, if_neg (by omega), if_neg (by omega), if_neg (by omega)]
                        simp only [List.cons_append, List.nil_append, List.cons.injEq, and_true]
                        exact ⟨ofNat_eq (by omega), ofNat_eq (by omega), ofNat_eq (by omega), ofNat_eq (by omega)⟩
                      · intro x hx
                        simp only [List.cons_append, List.nil_append, List.mem_cons, List.not_mem_nil, or_false] at hx
                        rcases hx with rfl | rfl | rfl | rfl <;> omega
        · intro h; simp at h

/-! ### The reference's text in quotes -/
def plainR (c : Nat) : Nat := if c = 34 ∨ c = 92 then c else if c = 8 then 98 else if c = 12 then 102 else if c = 10 then 110 else if c = 13 then 114 else if c = 9 then 116 else 0
def hexR (n : Nat) : List UInt8 := if n < 10 then [UInt8.ofNat (48 + n)] else [UInt8.ofNat (87 + n)]
def qByte (x : UInt8) : List UInt8 :=
  if plainR x.toNat ≠ 0 then [92, UInt8.ofNat (plainR x.toNat)] else if x.toNat < 32 then [92, 117, 48, 48] ++ hexR (x.toNat / 16) ++ hexR (x.toNat % 16) else [x]

theorem qByte_high {x : UInt8} (h : 128 ≤ x.toNat) : qByte x = [x] := by
  unfold qByte plainR
  have e1 : ¬ (x.toNat = 34 ∨ x.toNat = 92) := by omega
  have e2 : ¬ x.toNat = 8 := by omega
  have e3 : ¬ x.toNat = 12 := by omega
  have e4 : ¬ x.toNat = 10 := by omega
  have e5 : ¬ x.toNat = 13 := by omega
  have e6 : ¬ x.toNat = 9 := by omega
  have e7 : ¬ x.toNat < 32 := by omega
  simp [e1, e2, e3, e4, e5, e6, e7]

theorem flat_high : ∀ {l : List UInt8}, (∀ x ∈ l, 128 ≤ x.toNat) → l.flatMap qByte = l
  | [], _ => rfl
  | x :: l, h => by
    rw [List.flatMap_cons, qByte_high (h x (by simp)), flat_high (fun y hy => h y (by simp [hy]))]
    rfl

theorem hexV_R : ∀ x : Fin 16, hexV x.val = hexR x.val := by decide

theorem outV_low (x : UInt8) (h : x.toNat < 128) : outV x.toNat = qByte x := by
  have hx : encV x.toNat = [x] := by rw [encV, if_pos h]; exact congrArg (· :: []) (ofNat_eq rfl)
  unfold outV
  rw [hx]
  unfold escV qByte plainR
  generalize hn : x.toNat = n at *
  have h16 : hexV (n % 16) = hexR (n % 16) := hexV_R ⟨n % 16, by omega⟩
  by_cases e1 : n = 34
  · subst e1; simp
  by_cases e2 : n = 92
  · subst e2; simp
  by_cases e3 : n = 8
  · subst e3; simp
  by_cases e4 : n = 12
  · subst e4; simp
  by_cases e5 : n = 10
  · subst e5; simp
  by_cases e6 : n = 13
  · subst e6; simp
  by_cases e7 : n = 9
  · subst e7; simp
  by_cases e8 : n < 32
  · have h2 : hexV (n / 16) = hexR (n / 16) := hexV_R ⟨n / 16, by omega⟩
    simp [e1, e2, e3, e4, e5, e6, e7, e8, h16, h2]
  · simp [e1, e2, e3, e4, e5, e6, e7, e8]

theorem outV_high {c : Nat} (h : 128 ≤ c) : outV c = encV c := by
  unfold outV escV
  have e1 : ¬ c = 34 := by omega
  have e1' : ¬ c = 92 := by omega
  have e2 : ¬ c = 8 := by omega
  have e3 : ¬ c = 12 := by omega
  have e4 : ¬ c = 10 := by omega
  have e5 : ¬ c = 13 := by omega
  have e6 : ¬ c = 9 := by omega
  have e7 : ¬ c < 32 := by omega
  simp [e1, e1', e2, e3, e4, e5, e6, e7]

theorem badV_neg (b : List UInt8) (f p : Nat) (hp : p < b.length) (h : badV b (f + 1) p = -1) : (sizeV b p).1 ≠ 0 ∧ badV b f (p + (sizeV b p).1) = -1 := by
  rw [badV, if_pos hp] at h
  split at h
  · omega
  · exact ⟨by assumption, h⟩

theorem quoteB_ref (b : List UInt8) : ∀ f p, p ≤ b.length → b.length < p + f → badV b f p = -1 → quoteB b f p = (b.drop p).flatMap qByte
  | 0, p, hp, hf, _ => by omega
  | f + 1, p, hp, hf, hb => by
    rw [quoteB]
    split
    · rename_i hlt
      obtain ⟨hs, hb'⟩ := badV_neg b f p hlt hb
      obtain ⟨h1, h2⟩ := size_bytes b p hlt hs
      have hle := sizeV_le b p hlt
      have hd : sizeV b p = ((decV b p).2, (decV b p).1) := by
        have := sizeV_dec b p hlt
        split at this
        · rw [this] at hs; simp at hs
        · exact this
      have hd1 : (decV b p).1 = (sizeV b p).2 := by rw [hd]
      have hd2 : (decV b p).2 = (sizeV b p).1 := by rw [hd]
      rw [hd1, hd2]
      rw [quoteB_ref b f _ (by omega) (by omega) hb']
      have hsplit : b.drop p = (b.drop p).take (sizeV b p).1 ++ b.drop (p + (sizeV b p).1) := by rw [← List.drop_drop, List.take_append_drop]
      rw [hsplit, List.flatMap_append]
      congr 1
      rcases h2 with ⟨g1, g2, g3⟩ | ⟨g1, g2⟩
      · rw [g1, g2, outV_low _ g3, take_drop_getD b p 1 (by omega)]
        simp [List.range_succ]
      · rw [outV_high g1, flat_high g2, h1]
    · rw [List.drop_of_length_le (by omega)]; rfl

def quoteR (b : List UInt8) : List UInt8 := 34 :: (b.flatMap qByte ++ [34])

theorem quote_ref (b : List UInt8) (h : rightV b = true) : quoteV b = quoteR b := by
  unfold quoteV quoteR
  rw [quoteB_ref b _ 0 (by omega) (by omega) (by simpa [rightV] using h)]
  rfl

end Go.Proofs.YtjdppboomglenaaDoor.Eng
