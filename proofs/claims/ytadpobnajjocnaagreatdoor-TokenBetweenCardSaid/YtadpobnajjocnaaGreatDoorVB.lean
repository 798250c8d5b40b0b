/-
  A raw text's value is right, and no longer than it. No condition.
-/
import Derived.Test.YtadpobnajjocnaaGreatDoorVA
namespace Go.Proofs.YtadpobnajjocnaaGreatDoor.Eng
open Go
set_option linter.unusedSimpArgs false
set_option linter.unusedVariables false

attribute [local simp] evC_condT evC_condF evC_reg evC_regD evR_cons evR_nil runR_some regK_some evC_ret evC_skip evC_exit Out_seq Out_blk Out_some seqQ_norm seqQ_ret seqQ_exit blkQ_norm blkQ_ret blkQ_exit loopQ_norm loopQ_ret loopQ_exit
attribute [local simp] stepR evOp put upd_apply X.ev initEnv cells_agg cells_int cells_str cells_bool cells_sl cells_ptr cells_pnil cells_fn cells_map takeN evBin isSh intBin strBin callK resOf packR V.plain plainL V.und undL scK kill dstsO dstsL dstsR ite_some ite_pair ite_vbool evUn evLoad evLen V.real finLoop_false quietK_false kill_none
/-! ### A raw text's value is right -/
theorem hid_hi {c : UInt8} {t : List UInt8} (h : 128 ≤ c.toNat) : ¬ begs (c :: t) hid4 = true := by
  intro hb
  have := begs_hd hb
  rw [hd0_cons] at this
  subst this
  revert h
  decide
theorem replS_hi : ∀ (ch r : List UInt8), (∀ x ∈ ch, 128 ≤ x.toNat) → replS 0 (ch ++ r) = ch ++ replS 0 r
  | [], _, _ => rfl
  | c :: ch, r, h => by
    rw [List.cons_append, replS, if_neg (hid_hi (h c (by simp))), replS_hi ch r fun x hx => h x (by simp [hx])]
    rfl
theorem right_replS : ∀ (n : Nat) (l : List UInt8), l.length ≤ n → rightV l = true → rightV (replS 0 l) = true := by
  intro n
  induction n with
  | zero =>
    intro l hl _
    rw [List.length_eq_zero_iff.1 (Nat.le_zero.1 hl)]
    exact right_nil
  | succ n ih =>
    intro l hl h
    rcases right_case h with rfl | ⟨c, t, rfl, hc, ht⟩ | ⟨ch, r, rfl, hne, hhi, hch, hr⟩
    · exact right_nil
    · rw [replS]
      split
      · rename_i hb
        obtain ⟨r, hr⟩ := begs_hid hb
        simp only [List.cons.injEq] at hr
        obtain ⟨_, rfl⟩ := hr
        have e : replS 3 (34 :: 34 :: 34 :: r) = replS 0 r := rfl
        rw [e]
        have hrr : rightV r = true := right_cancel (x := [34, 34, 34]) (y := r) ht (right_ascii _ (by decide))
        simp only [List.length_cons] at hl
        exact right_app (right_ascii q3 (by decide)) (ih r (by omega) hrr)
      · simp only [List.length_cons] at hl
        exact right_app (x := [c]) (right_one hc) (ih t (by omega) ht)
    · rw [replS_hi ch r hhi]
      have hp := List.length_pos_iff.2 hne
      rw [List.length_append] at hl
      exact right_app hch (ih r (by omega) hr)

theorem nl_low {c : UInt8} (h : notNl c = false) : c.toNat < 128 := by
  unfold notNl at h
  by_cases h1 : c = 10
  · subst h1; decide
  · by_cases h2 : c = 13
    · subst h2; decide
    · simp [h1, h2] at h
theorem dw_hd {p : UInt8 → Bool} : ∀ {l : List UInt8} {c : UInt8} {t : List UInt8}, l.dropWhile p = c :: t → p c = false
  | [], c, t, h => by simp at h
  | d :: l, c, t, h => by
    rw [List.dropWhile_cons] at h
    split at h
    · exact dw_hd h
    · rename_i hd
      simp only [List.cons.injEq] at h
      rw [← h.1]; simpa using hd
theorem right_lines : ∀ (n : Nat) (l : List UInt8), rightV l = true → ∀ x ∈ linesF n l, rightV x = true
  | 0, l, h, x, hx => by simp [linesF] at hx; rw [hx]; exact h
  | n + 1, l, h, x, hx => by
    rw [linesF] at hx
    cases hd : l.dropWhile notNl with
    | nil => rw [hd] at hx; simp at hx; rw [hx]; exact h
    | cons c t =>
      rw [hd] at hx
      simp only at hx
      have hc := nl_low (dw_hd hd)
      have hs := List.takeWhile_append_dropWhile (p := notNl) (l := l)
      rw [hd] at hs
      rw [← hs] at h
      obtain ⟨h1, h2⟩ := right_cut h (fun c' t' e => by simp only [List.cons.injEq] at e; rw [← e.1]; exact hc)
      have h3 := right_tail h2 hc
      rcases List.mem_cons.1 hx with rfl | hx
      · exact h1
      · split at hx
        · rename_i h10
          refine right_lines n _ ?_ x hx
          cases t with
          | nil => exact right_nil
          | cons d u =>
            rw [hd0_cons] at h10
            rw [List.drop_succ_cons, List.drop_zero]
            refine right_tail h3 ?_
            rw [h10.2]; decide
        · exact right_lines n _ h3 x hx

theorem bk_low {c : UInt8} (h : isBk c = true) : c.toNat < 128 := by
  unfold isBk at h
  simp at h
  rcases h with rfl | rfl <;> decide
theorem indL_some : ∀ (ls : List (List UInt8)) (m : Nat), ∃ k, indL (some m) ls = some k ∧ k ≤ m
  | [], m => ⟨m, rfl, Nat.le_refl _⟩
  | l :: ls, m => by
    rw [indL_cons]
    split
    · exact indL_some ls m
    · obtain ⟨k, h1, h2⟩ := indL_some ls (mnO (some m) (leadN l))
      refine ⟨k, h1, Nat.le_trans h2 ?_⟩
      simp only [mnO]
      split <;> omega
theorem indL_lead : ∀ (ls : List (List UInt8)) (a : Option Nat) (l : List UInt8), l ∈ ls → ¬ isBlank l = true → (indL a ls).getD 0 ≤ leadN l
  | [], _, _, h, _ => by cases h
  | x :: ls, a, l, h, hb => by
    rw [indL_cons]
    rcases List.mem_cons.1 h with rfl | h
    · rw [if_neg hb]
      obtain ⟨k, h1, h2⟩ := indL_some ls (mnO a (leadN l))
      rw [h1, Option.getD_some]
      refine Nat.le_trans h2 ?_
      cases a with
      | none => exact Nat.le_refl _
      | some m => simp only [mnO]; split <;> omega
    · exact indL_lead ls _ l h hb
theorem tw_low (l : List UInt8) : ∀ c ∈ l.takeWhile isBk, c.toNat < 128 := fun c hc => bk_low (List.all_eq_true.1 List.all_takeWhile c hc)
theorem right_dropN {l : List UInt8} (h : rightV l = true) {n : Nat} (hn : ¬ isBlank l = true → n ≤ leadN l) : rightV (l.drop n) = true := by
  have hs := List.takeWhile_append_dropWhile (p := isBk) (l := l)
  by_cases hb : isBlank l = true
  · unfold isBlank at hb
    rw [decide_eq_true_eq] at hb
    rw [hb, List.append_nil] at hs
    refine right_ascii _ fun c hc => ?_
    refine tw_low l c ?_
    rw [hs]
    exact List.mem_of_mem_drop hc
  · have hn := hn hb
    unfold leadN at hn
    refine right_cancel (x := l.take n) (by rw [List.take_append_drop]; exact h) (right_ascii _ fun c hc => ?_)
    refine tw_low l c ?_
    rw [← hs, List.take_append_of_le_length hn] at hc
    exact List.mem_of_mem_take hc
theorem right_cutP {ls : List (List UInt8)} (h : ∀ x ∈ ls, rightV x = true) : ∀ x ∈ cutP (indP ls) ls, rightV x = true := by
  cases ls with
  | nil => intro x hx; cases hx
  | cons l ls =>
    intro x hx
    rw [cutP] at hx
    rcases List.mem_cons.1 hx with rfl | hx
    · exact h _ (by simp)
    · obtain ⟨y, hy, rfl⟩ := List.mem_map.1 hx
      refine right_dropN (h y (by simp [hy])) fun hb => ?_
      exact indL_lead ls none y hy hb
theorem stripF_sub : ∀ (ls : List (List UInt8)), ∀ x ∈ stripF ls, x ∈ ls
  | [], x, h => h
  | l :: ls, x, h => by
    rw [stripF] at h
    split at h
    · exact List.mem_cons_of_mem _ (stripF_sub ls x h)
    · exact h
theorem stripB_sub (ls : List (List UInt8)) : ∀ x ∈ stripB ls, x ∈ ls := by
  intro x h
  unfold stripB at h
  have := stripF_sub _ x (List.mem_reverse.1 h)
  exact List.mem_reverse.1 this
theorem join_cons2' (x y : List UInt8) (Y : List (List UInt8)) (c : UInt8) : Lib.join (x :: y :: Y) [c] = x ++ c :: Lib.join (y :: Y) [c] := by
  rw [Lib.join_cons, Lib.join_cons]
  simp [Lib.joinTail]
theorem right_joins {c : UInt8} (hc : c.toNat < 128) : ∀ (X : List (List UInt8)), (∀ x ∈ X, rightV x = true) → rightV (Lib.join X [c]) = true
  | [], _ => right_nil
  | [x], h => by rw [Lib.join_one]; exact h x (by simp)
  | x :: y :: Y, h => by
    rw [join_cons2']
    exact right_app (h x (by simp)) (right_app (x := [c]) (right_one hc) (right_joins hc (y :: Y) fun z hz => h z (by simp [hz])))
theorem blockV_right {raw : List UInt8} (h : rightV raw = true) : rightV (blockV raw) = true := by
  have h1 := right_replS raw.length raw (Nat.le_refl _) h
  have h2 := right_lines (replS 0 raw).length _ h1
  have hbv : blockV raw = Lib.join (stripB (stripF (cutP (indP (linesP (replS 0 raw))) (linesP (replS 0 raw))))) [10] := rfl
  rw [hbv]
  refine right_joins (by decide) _ fun x hx => ?_
  exact right_cutP h2 x (stripF_sub _ x (stripB_sub _ x hx))
theorem blockV_len (raw : List UInt8) : (blockV raw).length ≤ raw.length + 1 := by
  have hbv : blockV raw = Lib.join (stripB (stripF (cutP (indP (linesP (replS 0 raw))) (linesP (replS 0 raw))))) [10] := rfl
  rw [hbv]
  have a1 := tot_join (stripB (stripF (cutP (indP (linesP (replS 0 raw))) (linesP (replS 0 raw))))) 10
  have a2 := tot_stripB (stripF (cutP (indP (linesP (replS 0 raw))) (linesP (replS 0 raw))))
  have a3 := tot_stripF (cutP (indP (linesP (replS 0 raw))) (linesP (replS 0 raw)))
  have a4 := tot_cut (indP (linesP (replS 0 raw))) (linesP (replS 0 raw))
  have a5 := tot_linesF (replS 0 raw).length (replS 0 raw)
  have a6 := replS_len raw 0
  unfold linesP at *
  omega

end Go.Proofs.YtadpobnajjocnaaGreatDoor.Eng
