/-
  What is cut of a right text may be written plainly. No condition.
-/
import Derived.Test.YtadpobnajjocnaaGreatDoorVC
namespace Go.Proofs.YtadpobnajjocnaaGreatDoor.Eng
open Go
set_option linter.unusedSimpArgs false
set_option linter.unusedVariables false

attribute [local simp] evC_condT evC_condF evC_reg evC_regD evR_cons evR_nil runR_some regK_some evC_ret evC_skip evC_exit Out_seq Out_blk Out_some seqQ_norm seqQ_ret seqQ_exit blkQ_norm blkQ_ret blkQ_exit loopQ_norm loopQ_ret loopQ_exit
attribute [local simp] stepR evOp put upd_apply X.ev initEnv cells_agg cells_int cells_str cells_bool cells_sl cells_ptr cells_pnil cells_fn cells_map takeN evBin isSh intBin strBin callK resOf packR V.plain plainL V.und undL scK kill dstsO dstsL dstsR ite_some ite_pair ite_vbool evUn evLoad evLen V.real finLoop_false quietK_false kill_none
/-! ### What is cut of a right text may be written plainly -/
theorem betw_right : ∀ (n : Nat) (l : List UInt8), l.length ≤ n → rightV l = true → rightV (betw false l) = true := by
  intro n
  induction n with
  | zero => intro l hl h; rw [List.length_eq_zero_iff.1 (Nat.le_zero.1 hl)]; exact right_nil
  | succ n ih =>
    intro l hl h
    cases l with
    | nil => exact right_nil
    | cons c t =>
      simp only [List.length_cons] at hl
      rw [betw]
      by_cases hs : isSep c = true
      · rw [if_pos hs]
        refine ih t (by omega) (right_tail h ?_)
        have key : ∀ k : Fin 256, isSep (UInt8.ofNat k.val) = true → (UInt8.ofNat k.val).toNat < 128 := by decide +kernel
        have := key ⟨c.toNat, c.toNat_lt⟩
        simp only [UInt8.ofNat_toNat] at this
        exact this hs
      · rw [if_neg hs]
        by_cases h35 : c = 35
        · rw [if_pos h35, betw_cmt]
          have ht := right_tail h (by rw [h35]; decide)
          have hsp := List.takeWhile_append_dropWhile (p := notNl) (l := t)
          have hlen := suf_len (List.dropWhile_suffix notNl (l := t))
          refine ih _ (by omega) ?_
          rw [← hsp] at ht
          refine (right_cut ht fun c' t' e => ?_).2
          exact nl_low (dw_hd e)
        · rw [if_neg h35]; exact h

theorem tokP_betw {s l' : List UInt8} {k : Int} (hne : s ≠ []) (h : tokP s = .ok (k, s) l') (hk : k ≠ 4) : betw false s = s := by
  obtain ⟨c, t, rfl⟩ := List.exists_cons_of_ne_nil hne
  have key : ∀ k : Fin 256, (isSep (UInt8.ofNat k.val) = true ∨ UInt8.ofNat k.val = 35) → isSign (UInt8.ofNat k.val) = false ∧ UInt8.ofNat k.val ≠ 46 ∧ isLet (UInt8.ofNat k.val) = false ∧ (isDig (UInt8.ofNat k.val) || decide (UInt8.ofNat k.val = 45)) = false ∧ UInt8.ofNat k.val ≠ 34 := by decide +kernel
  have key := key ⟨c.toNat, c.toNat_lt⟩
  simp only [UInt8.ofNat_toNat] at key
  have hno : ¬ (isSep c = true ∨ c = 35) := by
    intro hc
    obtain ⟨e1, e2, e3, e4, e5⟩ := key hc
    have hb3 : ¬ begs (c :: t) d3 = true := fun hb => e2 (begs_hd hb)
    have hq3 : ¬ begs (c :: t) q3 = true := fun hb => e5 (begs_hd hb)
    unfold tokP at h
    rw [hd0_cons, if_neg (by simp [e1]), if_neg hb3, if_neg (by simp [e3]), if_neg (by simp [e4]), if_neg hq3, if_neg e5] at h
    cases h
  rw [betw, if_neg (fun h => hno (.inl h)), if_neg (fun h => hno (.inr h))]

/-- A token that may be written plainly, of a size. -/
def okT (N : Nat) (t : Tok) : Prop := plT t ≠ [] ∧ t.s.length ≤ N
theorem tok_ok {l l' s : List UInt8} {k : Int} (hr : rightV l = true) (hl : l.length ≤ 4000) (hne : l ≠ []) (h : tokP l = .ok (k, s) l') (a : Int) : okT l.length ⟨k, s, a⟩ := by
  obtain ⟨h1, _, h3⟩ := tokP_right hr hne h
  refine ⟨?_, h3⟩
  unfold plT
  by_cases hk : k = 4
  · rw [if_pos hk, if_pos h1]; simp [quoteV]
  · rw [if_neg hk]
    obtain ⟨g1, g2, _⟩ := tokP_self hne h hk
    have hlo : lexOne ⟨k, s, a⟩ = true := by
      have hb := right_iff.1 h1
      have hbt := tokP_betw g2 g1 hk
      have hp := List.length_pos_iff.2 g2
      have hL : lexP s = ([⟨k, s, ((s.length - s.length : Nat) : Int)⟩], 0, 0) := by
        unfold lexP
        obtain ⟨n, hn⟩ : ∃ n, s.length = n + 1 := ⟨s.length - 1, by omega⟩
        rw [if_neg (by omega), hb, if_neg (by decide), hbt, hn, lexL, if_neg g2, if_neg (by simp), g1]
        simp only
        rw [show betw false [] = [] from rfl, lexL, if_pos rfl]
        simp [hn]
      unfold lexOne
      simp only
      rw [hL]
      simp
    rw [if_pos hlo]
    exact g2

theorem lexL_ok (b : List UInt8) (N : Nat) (hN : N ≤ 4000) : ∀ (n : Nat) (l : List UInt8) (toks : List Tok) (T : List Tok) (l2 : List UInt8), l.length ≤ N → rightV l = true → (∀ t ∈ toks, okT N t) → lexL b n l toks = .ok T l2 →
    (∀ t ∈ T, okT N t) ∧ T.length ≤ toks.length + l.length := by
  intro n
  induction n with
  | zero => intro l toks T l2 _ _ _ h; cases h
  | succ n ih =>
    intro l toks T l2 hl hr ht h
    rw [lexL] at h
    split at h
    · cases h; exact ⟨ht, by omega⟩
    rename_i hne
    split at h
    · cases h
    cases hT : tokP l with
    | err l' e => rw [hT] at h; cases h
    | ok kt l' =>
      obtain ⟨k, s⟩ := kt
      rw [hT] at h
      simp only at h
      obtain ⟨_, h2, _⟩ := tokP_right hr hne hT
      have hok := tok_ok hr (by omega) hne hT ((b.length - l.length : Nat) : Int)
      have h3 := (tokP_suf hne hT).2
      have h4 := suf_len (betw_suf false l')
      obtain ⟨i1, i2⟩ := ih _ _ T l2 (by omega) (betw_right _ l' (Nat.le_refl _) h2) (fun t hm => by
        rcases List.mem_append.1 hm with hm | hm
        · exact ht t hm
        · simp at hm; subst hm; exact ⟨hok.1, Nat.le_trans hok.2 hl⟩) h
      refine ⟨i1, ?_⟩
      simp only [List.length_append, List.length_cons, List.length_nil] at i2
      omega
theorem lexP_toks {b : List UInt8} {A : List Tok} {fa : Int} (h : lexP b = (A, 0, fa)) : (∀ t ∈ A, okT b.length t) ∧ A.length ≤ b.length := by
  obtain ⟨h1, h2, l2, h3⟩ := lexP_ok (by rw [h]) (by rw [h])
  have hr : rightV b = true := by
    have := badV_ge b (b.length + 1) 0
    rw [right_iff]; omega
  have hbr := betw_right _ b (Nat.le_refl _) hr
  have hl := suf_len (betw_suf false b)
  obtain ⟨g1, g2⟩ := lexL_ok b b.length h1 _ _ [] A l2 hl hbr (by simp) h3
  refine ⟨g1, ?_⟩
  simp only [List.length_nil] at g2
  omega
theorem okT_bad {N : Nat} : ∀ {A : List Tok}, (∀ t ∈ A, okT N t) → anyBad A = false
  | [], _ => rfl
  | t :: A, h => by
    rw [anyBad_cons, okT_bad (A := A) fun u hu => h u (by simp [hu]), decide_eq_false (h t (by simp)).1]
    rfl

end Go.Proofs.YtadpobnajjocnaaGreatDoor.Eng
