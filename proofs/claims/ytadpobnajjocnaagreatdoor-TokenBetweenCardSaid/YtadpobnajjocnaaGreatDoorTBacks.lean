/-
  Tokens: what the functions do, one behind the other. No condition.
-/
import Derived.Test.YtadpobnajjocnaaGreatDoorTPlains
/-
  Tokens come again: what stands behind a token's text does not change it. No condition.
-/
namespace Go.Proofs.YtadpobnajjocnaaGreatDoor.Eng
open Go
set_option linter.unusedSimpArgs false
set_option linter.unusedVariables false

attribute [local simp] evC_condT evC_condF evC_reg evC_regD evR_cons evR_nil runR_some regK_some evC_ret evC_skip evC_exit Out_seq Out_blk Out_some seqQ_norm seqQ_ret seqQ_exit blkQ_norm blkQ_ret blkQ_exit loopQ_norm loopQ_ret loopQ_exit
attribute [local simp] stepR evOp put upd_apply X.ev initEnv cells_agg cells_int cells_str cells_bool cells_sl cells_ptr cells_pnil cells_fn cells_map takeN evBin isSh intBin strBin callK resOf packR V.plain plainL V.und undL scK kill dstsO dstsL dstsR ite_some ite_pair ite_vbool evUn evLoad evLen V.real finLoop_false quietK_false kill_none
def kt (t : Tok) : Int × List UInt8 := (t.k, t.s)
theorem sameLoopN (A B : List Tok) (hA : A.length ≤ 1000000000) (h : A.map kt = B.map kt) (s : St) : ∀ (m i : Nat) (env : Env), A.length - i = m → i ≤ A.length → env 0 = .sl .no (tokVs A) → env 1 = .sl .no (tokVs B) → env 2 = .bool false → env 7 = .int .i64 i →
    Out (evC G (.loop false af10l0) env s) (fun ex env' s' => ex = .exit 0 ∧ s' = s) := by
  intro m
  have htl := tokVs_len A
  have hlB : A.length = B.length := by have := congrArg List.length h; simpa using this
  induction m with
  | zero =>
    intro i env hm hi h0 h1 h2 h7
    have : ¬ i < A.length := by omega
    refine Out_loop G false _ _ af10l0.eq_1 _ _ _ ?_
    simp [h0, h7, htl, this]
  | succ m ih =>
    intro i env hm hi h0 h1 h2 h7
    have hlt : i < A.length := by omega
    have hltB : i < B.length := by omega
    have hgm : (tokVs A)[((i : Nat) : Int).toNat]? = some (tokV A[i]) := by
      unfold tokVs
      rw [Int.toNat_natCast, List.getElem?_map, List.getElem?_eq_getElem hlt]; rfl
    have hgB : (tokVs B)[((i : Nat) : Int).toNat]? = some (tokV B[i]) := by
      unfold tokVs
      rw [Int.toNat_natCast, List.getElem?_map, List.getElem?_eq_getElem hltB]; rfl
    have he : kt A[i] = kt B[i] := by
      have := congrArg (·[i]?) h
      simpa [hlt, hltB] using this
    have hw : IntKind.i64.wrap ((i : Int) + 1) = ((i + 1 : Nat) : Int) := by rw [wrap_in (by omega) (by omega)]; omega
    have hgo := fun env => ih (i + 1) env (by omega) (by omega)
    clear ih h hlB
    generalize A[i] = t at *
    generalize B[i] = u at *
    obtain ⟨k, t, a⟩ := t
    obtain ⟨k2, t2, a2⟩ := u
    simp only [kt, Prod.mk.injEq] at he
    obtain ⟨rfl, rfl⟩ := he
    refine Out_loop G false _ _ af10l0.eq_1 _ _ _ ?_
    simp [h0, h1, h2, h7, htl, hlt, ↓hgm, ↓hgB, tokV, hw]
    exact hgo _ (by simp [h0]) (by simp [h1]) (by simp [h2]) (by simp)

theorem sameN_spec (A B : List Tok) (hA : A.length ≤ 1000000000) (h : A.map kt = B.map kt) (s : St) : call G 10 [.sl .no (tokVs A), .sl .no (tokVs B), .bool false] s = some (.bool true, s) := by
  have htl := tokVs_len A
  have htB := tokVs_len B
  have hlB : A.length = B.length := by have := congrArg List.length h; simpa using this
  have hpl := tokVs_plain A
  have hpB := tokVs_plain B
  refine call_out (F := af10) rfl rfl ?_
  simp [af10, af10b, htl, htB, hlB]
  refine Out.mono (sameLoopN A B hA h s A.length 0 _ (by omega) (by omega) (by simp [hpl]) (by simp [hpB]) (by simp) (by simp)) ?_
  rintro ex env' s' ⟨rfl, rfl⟩
  simp
  rw [fin_id _ (v := .bool _) rfl]
  rfl

/-! ### What stands behind -/
theorem hd0_cons (c : UInt8) (t : List UInt8) : hd0 (c :: t) = c := rfl
theorem begs_app {x r w : List UInt8} (h : begs x w = true) : begs (x ++ r) w = true := by
  rw [begs_pre, List.isPrefixOf_iff_prefix] at *
  exact h.trans (List.prefix_append _ _)
theorem isLd_32 : isLd 32 = false := by decide
theorem isDig_32 : isDig 32 = false := by decide
theorem tw_app32 {p : UInt8 → Bool} (h32 : p 32 = false) : ∀ {x : List UInt8} (r : List UInt8), (∀ c ∈ x, p c = true) → (x ++ 32 :: r).takeWhile p = x ∧ (x ++ 32 :: r).dropWhile p = 32 :: r
  | [], r, _ => ⟨by rw [List.nil_append, List.takeWhile_cons, if_neg (by simp [h32])], by rw [List.nil_append, List.dropWhile_cons, if_neg (by simp [h32])]⟩
  | c :: x, r, h => by
    have hc := h c (by simp)
    obtain ⟨h1, h2⟩ := tw_app32 h32 (x := x) r fun d hd => h d (by simp [hd])
    rw [List.cons_append, List.takeWhile_cons, List.dropWhile_cons, if_pos hc, if_pos hc, h1, h2]
    exact ⟨rfl, rfl⟩

end Go.Proofs.YtadpobnajjocnaaGreatDoor.Eng

/-
  One token's text: what is consumed. No condition.
-/
namespace Go.Proofs.YtadpobnajjocnaaGreatDoor.Eng
open Go
set_option linter.unusedSimpArgs false
set_option linter.unusedVariables false

attribute [local simp] evC_condT evC_condF evC_reg evC_regD evR_cons evR_nil runR_some regK_some evC_ret evC_skip evC_exit Out_seq Out_blk Out_some seqQ_norm seqQ_ret seqQ_exit blkQ_norm blkQ_ret blkQ_exit loopQ_norm loopQ_ret loopQ_exit
attribute [local simp] stepR evOp put upd_apply X.ev initEnv cells_agg cells_int cells_str cells_bool cells_sl cells_ptr cells_pnil cells_fn cells_map takeN evBin isSh intBin strBin callK resOf packR V.plain plainL V.und undL scK kill dstsO dstsL dstsR ite_some ite_pair ite_vbool evUn evLoad evLen V.real finLoop_false quietK_false kill_none
theorem tokP_cons {l l' s : List UInt8} {k : Int} (hne : l ≠ []) (h : tokP l = .ok (k, s) l') (hk : k ≠ 4) : l = s ++ l' := by
  unfold tokP at h
  split at h
  · cases h
    obtain ⟨c, t, rfl⟩ := List.exists_cons_of_ne_nil hne
    rfl
  · split at h
    · rename_i hb
      cases h
      rw [begs_pre, List.isPrefixOf_iff_prefix] at hb
      obtain ⟨r, rfl⟩ := hb
      rfl
    · split at h
      · cases h
        exact List.takeWhile_append_dropWhile.symm
      · split at h
        · unfold tnum at h
          split at h
          · cases h
          · split at h
            · cases h
            · cases h
              exact ttx_eq l hne
        · split at h
          · exfalso
            unfold traw at h
            split at h
            · cases h
            · split at h
              · cases h
              · cases h; exact hk rfl
          · split at h
            · exfalso
              unfold tquo at h
              split at h
              · cases h
              · cases h; exact hk rfl
            · cases h

theorem lexL_pre (b : List UInt8) : ∀ (n : Nat) (l l2 : List UInt8) (toks t2 : List Tok), lexL b n l toks = .ok t2 l2 → toks <+: t2 := by
  intro n
  induction n with
  | zero => intro l l2 toks t2 h; cases h
  | succ n ih =>
    intro l l2 toks t2 h
    rw [lexL] at h
    split at h
    · cases h; exact List.prefix_refl _
    · split at h
      · cases h
      · cases hT : tokP l with
        | err l' e => rw [hT] at h; cases h
        | ok kt l' =>
          rw [hT] at h
          exact (List.prefix_append _ _).trans (ih _ _ _ _ h)

theorem lexP_ok {b : List UInt8} {toks : List Tok} (h : (lexP b).2.1 = 0) (h1 : (lexP b).1 = toks) : b.length ≤ 4000 ∧ badV b (b.length + 1) 0 < 0 ∧ ∃ l2, lexL b (b.length + 1) (betw false b) [] = .ok toks l2 := by
  unfold lexP at h h1
  split at h
  · cases h
  · rename_i c1
    rw [if_neg c1] at h1
    split at h
    · cases h
    · rename_i c2
      rw [if_neg c2] at h1
      cases hL : lexL b (b.length + 1) (betw false b) [] with
      | ok t l2 =>
        rw [hL] at h1
        simp only at h1
        subst h1
        exact ⟨by omega, by omega, l2, rfl⟩
      | err l e =>
        rw [hL] at h
        simp only at h
        exfalso
        subst h
        revert hL
        have key : ∀ (n : Nat) (l l2 : List UInt8) (toks : List Tok), lexL b n l toks ≠ .err l2 0 := by
          intro n
          induction n with
          | zero => intro l l2 toks h; cases h
          | succ n ih =>
            intro l l2 toks h
            rw [lexL] at h
            split at h
            · cases h
            · split at h
              · cases h
              · cases hT : tokP l with
                | err l' e =>
                  rw [hT] at h
                  have := tokP_err hT
                  simp only [PR.err.injEq] at h
                  omega
                | ok kt l' => rw [hT] at h; exact ih _ _ _ h
        exact key _ _ _ _

/-- A token that its own text is: nothing stands around it. -/
theorem lexOne_tok {t : Tok} (hk : t.k ≠ 4) (h : lexOne t = true) : tokP t.s = .ok (t.k, t.s) [] ∧ betw false t.s = t.s ∧ t.s.length ≤ 4000 ∧ badV t.s (t.s.length + 1) 0 < 0 := by
  unfold lexOne at h
  rw [Bool.and_eq_true, decide_eq_true_eq] at h
  obtain ⟨h0, h⟩ := h
  split at h
  · rename_i u hu
    rw [Bool.and_eq_true, decide_eq_true_eq, decide_eq_true_eq] at h
    obtain ⟨hk2, hs2⟩ := h
    obtain ⟨c1, c2, l2, hL⟩ := lexP_ok h0 hu
    have hbs := betw_suf false t.s
    rw [lexL] at hL
    split at hL
    · cases hL
    · rename_i hne
      split at hL
      · cases hL
      · cases hT : tokP (betw false t.s) with
        | err l' e => rw [hT] at hL; cases hL
        | ok kt l' =>
          rw [hT] at hL
          obtain ⟨k, s⟩ := kt
          have hp := lexL_pre _ _ _ _ _ _ hL
          obtain ⟨r, hr⟩ := hp
          simp only [List.nil_append, List.singleton_append, List.cons.injEq] at hr
          obtain ⟨hr1, hr2⟩ := hr
          have hks : k = t.k ∧ s = t.s := by rw [← hk2, ← hs2, ← hr1]; exact ⟨rfl, rfl⟩
          obtain ⟨rfl, rfl⟩ := hks
          have hc := tokP_cons hne hT hk
          have hl := suf_len hbs
          have hcl := congrArg List.length hc
          rw [List.length_append] at hcl
          have hl' : l' = [] := List.eq_nil_of_length_eq_zero (by omega)
          subst hl'
          rw [List.append_nil] at hc
          rw [hc] at hT
          exact ⟨hT, hc, c1, c2⟩
  · cases h

end Go.Proofs.YtadpobnajjocnaaGreatDoor.Eng

/-
  A token's text with a blank behind it. No condition.
-/
namespace Go.Proofs.YtadpobnajjocnaaGreatDoor.Eng
open Go
set_option linter.unusedSimpArgs false
set_option linter.unusedVariables false

attribute [local simp] evC_condT evC_condF evC_reg evC_regD evR_cons evR_nil runR_some regK_some evC_ret evC_skip evC_exit Out_seq Out_blk Out_some seqQ_norm seqQ_ret seqQ_exit blkQ_norm blkQ_ret blkQ_exit loopQ_norm loopQ_ret loopQ_exit
attribute [local simp] stepR evOp put upd_apply X.ev initEnv cells_agg cells_int cells_str cells_bool cells_sl cells_ptr cells_pnil cells_fn cells_map takeN evBin isSh intBin strBin callK resOf packR V.plain plainL V.und undL scK kill dstsO dstsL dstsR ite_some ite_pair ite_vbool evUn evLoad evLen V.real finLoop_false quietK_false kill_none
theorem begs_hd {l : List UInt8} {c : UInt8} {w : List UInt8} (h : begs l (c :: w) = true) : hd0 l = c := by
  rw [begs_pre, List.isPrefixOf_iff_prefix] at h
  obtain ⟨r, rfl⟩ := h
  rfl
theorem hd0_app {x : List UInt8} (hx : x ≠ []) (r : List UInt8) : hd0 (x ++ r) = hd0 x := by
  obtain ⟨c, t, rfl⟩ := List.exists_cons_of_ne_nil hx
  rfl
theorem let46 : isLet 46 = false := by decide
theorem dig46 : isDig 46 = false := by decide
theorem sign46 : isSign 46 = false := by decide

theorem tnum_more {x r : List UInt8} (hx : x ≠ []) (h : tnum x = .ok (3, x) []) : tnum (x ++ 32 :: r) = .ok (3, x) (32 :: r) := by
  unfold tnum at h
  split at h
  · cases h
  rename_i hb
  split at h
  · cases h
  simp only [PR.ok.injEq, Prod.mk.injEq, true_and] at h
  obtain ⟨htx, htr⟩ := h
  have hT : numT (x ++ 32 :: r) = numT x ++ 32 :: r := by
    obtain ⟨c, t, rfl⟩ := List.exists_cons_of_ne_nil hx
    simp only [List.cons_append, numT]
    split <;> rfl
  have hN : isNeg (x ++ 32 :: r) = isNeg x := by unfold isNeg; rw [hd0_app hx]
  have hte := tnum_eq x
  rw [htr, List.append_nil] at hte
  have hd0 : tdg x ≠ [] := fun h => hb (.inl h)
  have hnx : numT x ≠ [] := by rw [hte]; exact hd0
  have hdd := tdg_dig x
  have hD : tdg (x ++ 32 :: r) = tdg x ∧ trs (x ++ 32 :: r) = 32 :: r := by
    unfold tdg trs
    rw [hT, hd0_app hnx]
    by_cases h48 : Eng.hd0 (numT x) = 48
    · rw [if_pos h48, if_pos h48, if_pos h48]
      have h1 : tdg x = [48] := by unfold tdg; rw [if_pos h48]
      rw [h1] at hte
      rw [hte]
      exact ⟨rfl, rfl⟩
    · rw [if_neg h48, if_neg h48, if_neg h48]
      have hall : ∀ c ∈ numT x, isDig c = true := by rw [hte]; exact hdd
      obtain ⟨a, b⟩ := tw_app32 isDig_32 r hall
      refine ⟨?_, b⟩
      rw [a]
      have h1 : tdg x = (numT x).takeWhile isDig := by unfold tdg; rw [if_neg h48]
      rw [← h1]
      exact hte
  have hX : ttx (x ++ 32 :: r) = ttx x := by unfold ttx; rw [hN, hD.1]
  have hB : ¬ tbad (x ++ 32 :: r) := by unfold tbad at hb ⊢; rw [hN, hD.1]; exact hb
  unfold tnum
  rw [if_neg hB, hD.2, if_neg (by simp [nxtBad, isLd_32]), hX, htx]

theorem tokP_more {k : Int} {x r : List UInt8} (hx : x ≠ []) (hk : k ≠ 4) (h : tokP x = .ok (k, x) []) : tokP (x ++ 32 :: r) = .ok (k, x) (32 :: r) := by
  have hh := hd0_app hx (32 :: r)
  unfold tokP at h
  split at h
  · rename_i c1
    simp only [PR.ok.injEq, Prod.mk.injEq] at h
    obtain ⟨⟨rfl, h2⟩, h3⟩ := h
    unfold tokP
    rw [hh, if_pos c1, h2, ← h2]
    rfl
  rename_i c1
  split at h
  · rename_i c2
    simp only [PR.ok.injEq, Prod.mk.injEq] at h
    obtain ⟨⟨rfl, h2⟩, h3⟩ := h
    unfold tokP
    rw [hh, if_neg c1, if_pos (begs_app c2), ← h2]
    rfl
  rename_i c2
  have hnd : (isLet (hd0 x) = true ∨ (isDig (hd0 x) || decide (hd0 x = 45)) = true) → ¬ begs (x ++ 32 :: r) d3 = true := by
    intro h hb
    have h46 := begs_hd hb
    rw [hh] at h46
    rw [h46] at h
    revert h
    decide
  split at h
  · rename_i c3
    simp only [PR.ok.injEq, Prod.mk.injEq] at h
    obtain ⟨⟨rfl, h2⟩, h3⟩ := h
    have hall : ∀ c ∈ x, isLd c = true := by rw [← h2]; exact List.all_eq_true.1 List.all_takeWhile
    obtain ⟨a, b⟩ := tw_app32 isLd_32 r hall
    unfold tokP
    rw [hh, if_neg c1, if_neg (hnd (.inl c3)), if_pos c3, a, b]
  rename_i c3
  split at h
  · rename_i c4
    have hk3 : k = 3 := by
      unfold tnum at h
      split at h
      · cases h
      · split at h
        · cases h
        · simp only [PR.ok.injEq, Prod.mk.injEq] at h; exact h.1.1.symm
    subst hk3
    unfold tokP
    rw [hh, if_neg c1, if_neg (hnd (.inr c4)), if_neg c3, if_pos c4]
    exact tnum_more hx h
  split at h
  · exfalso
    unfold traw at h
    split at h
    · cases h
    · split at h
      · cases h
      · simp only [PR.ok.injEq, Prod.mk.injEq] at h; exact hk h.1.1.symm
  split at h
  · exfalso
    unfold tquo at h
    split at h
    · cases h
    · simp only [PR.ok.injEq, Prod.mk.injEq] at h; exact hk h.1.1.symm
  · cases h

end Go.Proofs.YtadpobnajjocnaaGreatDoor.Eng

/-
  A quoted text as a token. No condition.
-/
namespace Go.Proofs.YtadpobnajjocnaaGreatDoor.Eng
open Go
set_option linter.unusedSimpArgs false
set_option linter.unusedVariables false

attribute [local simp] evC_condT evC_condF evC_reg evC_regD evR_cons evR_nil runR_some regK_some evC_ret evC_skip evC_exit Out_seq Out_blk Out_some seqQ_norm seqQ_ret seqQ_exit blkQ_norm blkQ_ret blkQ_exit loopQ_norm loopQ_ret loopQ_exit
attribute [local simp] stepR evOp put upd_apply X.ev initEnv cells_agg cells_int cells_str cells_bool cells_sl cells_ptr cells_pnil cells_fn cells_map takeN evBin isSh intBin strBin callK resOf packR V.plain plainL V.und undL scK kill dstsO dstsL dstsR ite_some ite_pair ite_vbool evUn evLoad evLen V.real finLoop_false quietK_false kill_none
theorem qByte_hd (c : UInt8) : ∃ d t, qByte c = d :: t ∧ d ≠ 34 := by
  unfold qByte
  split
  · exact ⟨92, _, rfl, by decide⟩
  · rename_i hp
    split
    · exact ⟨92, _, rfl, by decide⟩
    · refine ⟨c, [], rfl, ?_⟩
      intro h
      subst h
      exact hp (by decide)

theorem tokP_quote (s r : List UInt8) (h : rightV s = true) (hr : hd0 r ≠ 34) : tokP (quoteV s ++ r) = .ok (4, s) r := by
  have hp := punq_quote s r h
  have hq := quote_ref s h
  have h3 : ¬ begs (quoteV s ++ r) q3 = true := by
    intro hb
    obtain ⟨u, hu⟩ := begs_q3' hb
    rw [hq] at hu
    unfold quoteR at hu
    cases s with
    | nil =>
      simp only [List.flatMap_nil, List.nil_append, List.cons_append, List.cons.injEq, true_and] at hu
      rw [hu] at hr
      exact hr rfl
    | cons c t =>
      obtain ⟨d, v, hd, hne⟩ := qByte_hd c
      rw [List.flatMap_cons, hd] at hu
      simp only [List.cons_append, List.cons.injEq, true_and] at hu
      exact hne hu.1
  have hh : hd0 (quoteV s ++ r) = 34 := rfl
  have h2 : ¬ begs (quoteV s ++ r) d3 = true := by
    intro hb
    have := begs_hd hb
    rw [hh] at this
    exact absurd this (by decide)
  unfold tokP
  rw [hh, if_neg (by decide), if_neg h2, if_neg (by decide), if_neg (by decide), if_neg h3, if_pos rfl]
  unfold tquo
  rw [hp]

/-- Every plain text, with a blank behind it, is that token. -/
theorem plT_tok {t : Tok} (h : plT t ≠ []) (r : List UInt8) : tokP (plT t ++ 32 :: r) = .ok (t.k, t.s) (32 :: r) ∧ tokP (plT t) = .ok (t.k, t.s) [] := by
  unfold plT at h ⊢
  by_cases hk : t.k = 4
  · rw [if_pos hk] at h ⊢
    by_cases hr : rightV t.s = true
    · rw [if_pos hr] at h ⊢
      have h1 := tokP_quote t.s (32 :: r) hr (by rw [hd0_cons]; decide)
      have h2 := tokP_quote t.s [] hr (by decide)
      rw [List.append_nil] at h2
      rw [hk]
      exact ⟨h1, h2⟩
    · rw [if_neg hr] at h; exact absurd rfl h
  · rw [if_neg hk] at h ⊢
    by_cases hl : lexOne t = true
    · rw [if_pos hl] at h ⊢
      obtain ⟨h1, _⟩ := lexOne_tok hk hl
      exact ⟨tokP_more h hk h1, h1⟩
    · rw [if_neg hl] at h; exact absurd rfl h

end Go.Proofs.YtadpobnajjocnaaGreatDoor.Eng

/-
  Plain texts begin with no separator; they are cut again, one behind the other. No condition.
-/
namespace Go.Proofs.YtadpobnajjocnaaGreatDoor.Eng
open Go
set_option linter.unusedSimpArgs false
set_option linter.unusedVariables false

attribute [local simp] evC_condT evC_condF evC_reg evC_regD evR_cons evR_nil runR_some regK_some evC_ret evC_skip evC_exit Out_seq Out_blk Out_some seqQ_norm seqQ_ret seqQ_exit blkQ_norm blkQ_ret blkQ_exit loopQ_norm loopQ_ret loopQ_exit
attribute [local simp] stepR evOp put upd_apply X.ev initEnv cells_agg cells_int cells_str cells_bool cells_sl cells_ptr cells_pnil cells_fn cells_map takeN evBin isSh intBin strBin callK resOf packR V.plain plainL V.und undL scK kill dstsO dstsL dstsR ite_some ite_pair ite_vbool evUn evLoad evLen V.real finLoop_false quietK_false kill_none
theorem plT_hd {t : Tok} (h : plT t ≠ []) : ∃ c u, plT t = c :: u ∧ isSep c = false ∧ c ≠ 35 := by
  unfold plT at h ⊢
  by_cases hk : t.k = 4
  · rw [if_pos hk] at h ⊢
    by_cases hr : rightV t.s = true
    · rw [if_pos hr] at h ⊢
      exact ⟨34, _, rfl, by decide, by decide⟩
    · rw [if_neg hr] at h; exact absurd rfl h
  · rw [if_neg hk] at h ⊢
    by_cases hl : lexOne t = true
    · rw [if_pos hl] at h ⊢
      obtain ⟨_, h1, _⟩ := lexOne_tok hk hl
      generalize t.s = x at *
      obtain ⟨c, u, rfl⟩ := List.exists_cons_of_ne_nil h
      refine ⟨c, u, rfl, ?_⟩
      rw [betw] at h1
      split at h1
      · exfalso
        have := suf_len (betw_suf false u)
        rw [h1] at this
        simp at this
        omega
      · rename_i hs
        split at h1
        · exfalso
          have := suf_len (betw_suf true u)
          rw [h1] at this
          simp at this
          omega
        · rename_i h35
          exact ⟨by simpa using hs, h35⟩
    · rw [if_neg hl] at h; exact absurd rfl h

theorem betw_plT {t : Tok} (h : plT t ≠ []) (r : List UInt8) : betw false (plT t ++ r) = plT t ++ r := by
  obtain ⟨c, u, hc, hs, h35⟩ := plT_hd h
  rw [hc, List.cons_append, betw, if_neg (by simp [hs]), if_neg h35]

theorem betw_32 (r : List UInt8) : betw false (32 :: r) = betw false r := by
  rw [betw, if_pos (by decide)]

end Go.Proofs.YtadpobnajjocnaaGreatDoor.Eng

/-
  Plain texts with blanks between are cut into the same tokens. No condition.
-/
namespace Go.Proofs.YtadpobnajjocnaaGreatDoor.Eng
open Go
set_option linter.unusedSimpArgs false
set_option linter.unusedVariables false

attribute [local simp] evC_condT evC_condF evC_reg evC_regD evR_cons evR_nil runR_some regK_some evC_ret evC_skip evC_exit Out_seq Out_blk Out_some seqQ_norm seqQ_ret seqQ_exit blkQ_norm blkQ_ret blkQ_exit loopQ_norm loopQ_ret loopQ_exit
attribute [local simp] stepR evOp put upd_apply X.ev initEnv cells_agg cells_int cells_str cells_bool cells_sl cells_ptr cells_pnil cells_fn cells_map takeN evBin isSh intBin strBin callK resOf packR V.plain plainL V.und undL scK kill dstsO dstsL dstsR ite_some ite_pair ite_vbool evUn evLoad evLen V.real finLoop_false quietK_false kill_none
theorem join_cons2 (x y : List UInt8) (Y : List (List UInt8)) : Lib.join (x :: y :: Y) [32] = x ++ 32 :: Lib.join (y :: Y) [32] := by
  rw [Lib.join_cons, Lib.join_cons]
  simp [Lib.joinTail]
theorem anyBad_cons (t : Tok) (R : List Tok) : anyBad (t :: R) = (decide (plT t = []) || anyBad R) := by simp [anyBad]

theorem lexL_plain (b : List UInt8) : ∀ (A : List Tok) (n : Nat) (toks : List Tok), anyBad A = false → toks.length + A.length ≤ 900 → (Lib.join (A.map plT) [32]).length < n →
    ∃ T, lexL b n (Lib.join (A.map plT) [32]) toks = .ok (toks ++ T) [] ∧ T.map kt = A.map kt := by
  intro A
  induction A with
  | nil =>
    intro n toks _ _ hn
    obtain ⟨n, rfl⟩ : ∃ m, n = m + 1 := ⟨n - 1, by omega⟩
    refine ⟨[], ?_, rfl⟩
    have : Lib.join (([] : List Tok).map plT) [32] = [] := rfl
    rw [this, lexL, if_pos rfl, List.append_nil]
  | cons t R ih =>
    intro n toks hb hl hn
    obtain ⟨n, rfl⟩ : ∃ m, n = m + 1 := ⟨n - 1, by omega⟩
    rw [anyBad_cons, Bool.or_eq_false_iff, decide_eq_false_iff_not] at hb
    obtain ⟨ht, hR⟩ := hb
    simp only [List.length_cons] at hl
    obtain ⟨h1, h2⟩ := plT_tok ht (Lib.join (R.map plT) [32])
    have hpos := List.length_pos_iff.2 ht
    cases R with
    | nil =>
      have hj : Lib.join ([t].map plT) [32] = plT t := Lib.join_one _ _
      rw [hj] at hn ⊢
      obtain ⟨n, rfl⟩ : ∃ m, n = m + 1 := ⟨n - 1, by omega⟩
      refine ⟨[⟨t.k, t.s, ((b.length - (plT t).length : Nat) : Int)⟩], ?_, rfl⟩
      rw [lexL, if_neg ht, if_neg (by simp at hl; omega), h2]
      simp only
      rw [show betw false [] = [] from rfl, lexL, if_pos rfl]
    | cons u R =>
      have hj : Lib.join ((t :: u :: R).map plT) [32] = plT t ++ 32 :: Lib.join ((u :: R).map plT) [32] := join_cons2 _ _ _
      rw [hj] at hn ⊢
      rw [List.length_append, List.length_cons] at hn
      have hu : plT u ≠ [] := by rw [anyBad_cons, Bool.or_eq_false_iff, decide_eq_false_iff_not] at hR; exact hR.1
      have hbt : betw false (32 :: Lib.join ((u :: R).map plT) [32]) = Lib.join ((u :: R).map plT) [32] := by
        rw [betw_32, List.map_cons, Lib.join_cons]
        exact betw_plT hu _
      obtain ⟨T, hT, hk⟩ := ih n (toks ++ [⟨t.k, t.s, ((b.length - (plT t ++ 32 :: Lib.join ((u :: R).map plT) [32]).length : Nat) : Int)⟩]) hR (by simp only [List.length_append, List.length_cons, List.length_nil] at *; omega) (by omega)
      refine ⟨⟨t.k, t.s, ((b.length - (plT t ++ 32 :: Lib.join ((u :: R).map plT) [32]).length : Nat) : Int)⟩ :: T, ?_, by rw [List.map_cons, hk]; rfl⟩
      rw [lexL, if_neg (by simp [ht]), if_neg (by simp only [List.length_cons] at hl; omega), h1]
      simp only
      rw [hbt, hT]
      simp

end Go.Proofs.YtadpobnajjocnaaGreatDoor.Eng

/-
  Right texts joined are right: a character at a place, in a longer text. No condition.
-/
namespace Go.Proofs.YtadpobnajjocnaaGreatDoor.Eng
open Go
set_option linter.unusedSimpArgs false
set_option linter.unusedVariables false

attribute [local simp] evC_condT evC_condF evC_reg evC_regD evR_cons evR_nil runR_some regK_some evC_ret evC_skip evC_exit Out_seq Out_blk Out_some seqQ_norm seqQ_ret seqQ_exit blkQ_norm blkQ_ret blkQ_exit loopQ_norm loopQ_ret loopQ_exit
attribute [local simp] stepR evOp put upd_apply X.ev initEnv cells_agg cells_int cells_str cells_bool cells_sl cells_ptr cells_pnil cells_fn cells_map takeN evBin isSh intBin strBin callK resOf packR V.plain plainL V.und undL scK kill dstsO dstsL dstsR ite_some ite_pair ite_vbool evUn evLoad evLen V.real finLoop_false quietK_false kill_none
theorem contV_congr {b b' : List UInt8} {p p' n : Nat} : ∀ (k i v : Nat), (∀ j, i ≤ j → j < i + k → b.getD (p + j) 0 = b'.getD (p' + j) 0) → contV b p n k i v = contV b' p' n k i v
  | 0, i, v, _ => rfl
  | k + 1, i, v, h => by
    have h0 := h i (Nat.le_refl _) (by omega)
    have ih := fun v => contV_congr (b := b) (b' := b') (p := p) (p' := p') (n := n) k (i + 1) v fun j h1 h2 => h j (by omega) (by omega)
    unfold contV
    rw [h0]
    simp only [ih]

def goR (b : List UInt8) (p n v least : Nat) : Nat × Nat :=
  if b.length < p + n then (0, 0) else
  match contV b p n (n - 1) 1 v with
  | none => (0, 0)
  | some w => if w < least ∨ 1114111 < w ∨ (55296 ≤ w ∧ w < 57344) then (0, 0) else (n, w)
theorem goR_fst (b : List UInt8) (p n v least : Nat) : (goR b p n v least).1 = 0 ∨ (goR b p n v least).1 = n := by
  unfold goR
  repeat' split
  all_goals simp
theorem goR_congr {b b' : List UInt8} {p p' n v least : Nat} (h0 : (goR b p n v least).1 ≠ 0) (hb' : p' + n ≤ b'.length) (hj : ∀ j, j < n → b.getD (p + j) 0 = b'.getD (p' + j) 0) : goR b' p' n v least = goR b p n v least := by
  have hl : ¬ b.length < p + n := by
    intro h
    unfold goR at h0
    rw [if_pos h] at h0
    exact h0 rfl
  have hc := contV_congr (b := b) (b' := b') (p := p) (p' := p') (n := n) (n - 1) 1 v fun j h1 h2 => hj j (by omega)
  unfold goR
  rw [if_neg hl, if_neg (by omega), hc]
theorem sizeV_go (b : List UInt8) (p : Nat) : sizeV b p =
    if (b.getD p 0).toNat < 128 then (1, (b.getD p 0).toNat)
    else if 194 ≤ (b.getD p 0).toNat ∧ (b.getD p 0).toNat < 224 then goR b p 2 ((b.getD p 0).toNat - 192) 128
    else if 224 ≤ (b.getD p 0).toNat ∧ (b.getD p 0).toNat < 240 then goR b p 3 ((b.getD p 0).toNat - 224) 2048
    else if 240 ≤ (b.getD p 0).toNat ∧ (b.getD p 0).toNat < 245 then goR b p 4 ((b.getD p 0).toNat - 240) 65536
    else (0, 0) := rfl

/-- Where a character is whole at a place, it is the same wherever the same bytes stand. -/
theorem sizeV_congr {b b' : List UInt8} {p p' : Nat} (h0 : (sizeV b p).1 ≠ 0) (hb' : p' + (sizeV b p).1 ≤ b'.length) (hj : ∀ j, j < (sizeV b p).1 → b.getD (p + j) 0 = b'.getD (p' + j) 0) : sizeV b' p' = sizeV b p := by
  have hc := hj 0 (by omega)
  rw [Nat.add_zero, Nat.add_zero] at hc
  rw [sizeV_go b' p', ← hc]
  rw [sizeV_go b p] at h0 hb' hj ⊢
  have key : ∀ n v least, (goR b p n v least).1 ≠ 0 → p' + (goR b p n v least).1 ≤ b'.length → (∀ j, j < (goR b p n v least).1 → b.getD (p + j) 0 = b'.getD (p' + j) 0) → goR b' p' n v least = goR b p n v least := by
    intro n v least h1 h2 h3
    rcases goR_fst b p n v least with h | h
    · exact absurd h h1
    · rw [h] at h2 h3
      exact goR_congr h1 h2 h3
  by_cases c1 : (b.getD p 0).toNat < 128
  · rw [if_pos c1, if_pos c1]
  rw [if_neg c1] at h0 hb' hj ⊢
  rw [if_neg c1]
  by_cases c2 : 194 ≤ (b.getD p 0).toNat ∧ (b.getD p 0).toNat < 224
  · rw [if_pos c2] at h0 hb' hj ⊢
    rw [if_pos c2]
    exact key _ _ _ h0 hb' hj
  rw [if_neg c2] at h0 hb' hj ⊢
  rw [if_neg c2]
  by_cases c3 : 224 ≤ (b.getD p 0).toNat ∧ (b.getD p 0).toNat < 240
  · rw [if_pos c3] at h0 hb' hj ⊢
    rw [if_pos c3]
    exact key _ _ _ h0 hb' hj
  rw [if_neg c3] at h0 hb' hj ⊢
  rw [if_neg c3]
  by_cases c4 : 240 ≤ (b.getD p 0).toNat ∧ (b.getD p 0).toNat < 245
  · rw [if_pos c4] at h0 hb' hj ⊢
    rw [if_pos c4]
    exact key _ _ _ h0 hb' hj
  rw [if_neg c4] at h0
  exact absurd rfl h0

end Go.Proofs.YtadpobnajjocnaaGreatDoor.Eng

/-
  Right texts joined are right. No condition.
-/
namespace Go.Proofs.YtadpobnajjocnaaGreatDoor.Eng
open Go
set_option linter.unusedSimpArgs false
set_option linter.unusedVariables false

attribute [local simp] evC_condT evC_condF evC_reg evC_regD evR_cons evR_nil runR_some regK_some evC_ret evC_skip evC_exit Out_seq Out_blk Out_some seqQ_norm seqQ_ret seqQ_exit blkQ_norm blkQ_ret blkQ_exit loopQ_norm loopQ_ret loopQ_exit
attribute [local simp] stepR evOp put upd_apply X.ev initEnv cells_agg cells_int cells_str cells_bool cells_sl cells_ptr cells_pnil cells_fn cells_map takeN evBin isSh intBin strBin callK resOf packR V.plain plainL V.und undL scK kill dstsO dstsL dstsR ite_some ite_pair ite_vbool evUn evLoad evLen V.real finLoop_false quietK_false kill_none
theorem getD_app_l {x y : List UInt8} {p : Nat} (h : p < x.length) : x.getD p 0 = (x ++ y).getD p 0 := by
  rw [List.getD_eq_getElem?_getD, List.getD_eq_getElem?_getD, List.getElem?_append_left h]
theorem getD_app_r {x y : List UInt8} {q : Nat} : y.getD q 0 = (x ++ y).getD (x.length + q) 0 := by
  rw [List.getD_eq_getElem?_getD, List.getD_eq_getElem?_getD, List.getElem?_append_right (by omega), Nat.add_sub_cancel_left]

theorem badV_shift {x y : List UInt8} : ∀ (f q g : Nat), badV y f q = -1 → y.length < q + f → (x ++ y).length < x.length + q + g → badV (x ++ y) g (x.length + q) = -1 := by
  intro f
  induction f with
  | zero =>
    intro q g h hf hg
    cases g with
    | zero => rfl
    | succ g =>
      rw [badV, if_neg (by rw [List.length_append]; omega)]
  | succ f ih =>
    intro q g h hf hg
    rw [List.length_append] at hg
    by_cases hq : q < y.length
    · obtain ⟨h1, h2⟩ := badV_neg y f q hq h
      have hle := (sizeV_le y q hq).2.1
      have hs : sizeV (x ++ y) (x.length + q) = sizeV y q := sizeV_congr h1 (by rw [List.length_append]; omega) (fun j hj => by rw [Nat.add_assoc]; exact getD_app_r)
      cases g with
      | zero => rfl
      | succ g =>
        rw [badV, if_pos (by rw [List.length_append]; omega), hs, if_neg h1, Nat.add_assoc]
        exact ih _ g h2 (by omega) (by rw [List.length_append]; omega)
    · cases g with
      | zero => rfl
      | succ g => rw [badV, if_neg (by rw [List.length_append]; omega)]

theorem badV_app {x y : List UInt8} (hy : badV y (y.length + 1) 0 = -1) : ∀ (f p g : Nat), p ≤ x.length → badV x f p = -1 → x.length < p + f → (x ++ y).length < p + g → badV (x ++ y) g p = -1 := by
  intro f
  induction f with
  | zero => intro p g hp h hf; omega
  | succ f ih =>
    intro p g hp h hf hg
    by_cases hq : p < x.length
    · obtain ⟨h1, h2⟩ := badV_neg x f p hq h
      have hle := (sizeV_le x p hq).2.1
      have hs : sizeV (x ++ y) p = sizeV x p := sizeV_congr h1 (by rw [List.length_append]; omega) (fun j hj => getD_app_l (by omega))
      cases g with
      | zero => rfl
      | succ g =>
        rw [badV, if_pos (by rw [List.length_append]; omega), hs, if_neg h1]
        exact ih _ g hle h2 (by omega) (by omega)
    · have : p = x.length := by omega
      subst this
      have := badV_shift (x := x) (y := y) (y.length + 1) 0 g hy (by omega) (by simpa using hg)
      simpa using this

theorem right_app {x y : List UInt8} (hx : rightV x = true) (hy : rightV y = true) : rightV (x ++ y) = true := by
  unfold rightV at *
  rw [decide_eq_true_eq] at *
  exact badV_app hy (x.length + 1) 0 _ (Nat.zero_le _) hx (by omega) (by omega)

end Go.Proofs.YtadpobnajjocnaaGreatDoor.Eng

/-
  ASCII texts are right; so is a character by itself. No condition.
-/
namespace Go.Proofs.YtadpobnajjocnaaGreatDoor.Eng
open Go
set_option linter.unusedSimpArgs false
set_option linter.unusedVariables false

attribute [local simp] evC_condT evC_condF evC_reg evC_regD evR_cons evR_nil runR_some regK_some evC_ret evC_skip evC_exit Out_seq Out_blk Out_some seqQ_norm seqQ_ret seqQ_exit blkQ_norm blkQ_ret blkQ_exit loopQ_norm loopQ_ret loopQ_exit
attribute [local simp] stepR evOp put upd_apply X.ev initEnv cells_agg cells_int cells_str cells_bool cells_sl cells_ptr cells_pnil cells_fn cells_map takeN evBin isSh intBin strBin callK resOf packR V.plain plainL V.und undL scK kill dstsO dstsL dstsR ite_some ite_pair ite_vbool evUn evLoad evLen V.real finLoop_false quietK_false kill_none
theorem right_one {c : UInt8} (h : c.toNat < 128) : rightV [c] = true := by
  have hs : sizeV [c] 0 = (1, c.toNat) := by
    rw [sizeV_go]
    exact if_pos h
  unfold rightV
  rw [decide_eq_true_eq]
  show badV [c] 2 0 = -1
  rw [badV, if_pos (by simp), hs, if_neg (by simp), badV, if_neg (by simp)]
theorem right_nil : rightV [] = true := by rfl
theorem right_ascii : ∀ (l : List UInt8), (∀ c ∈ l, c.toNat < 128) → rightV l = true
  | [], _ => right_nil
  | c :: l, h => right_app (x := [c]) (right_one (h c (by simp))) (right_ascii l fun d hd => h d (by simp [hd]))
theorem right_chunk {s : List UInt8} {p : Nat} (hp : p < s.length) (h : (sizeV s p).1 ≠ 0) : rightV ((s.drop p).take (sizeV s p).1) = true := by
  have hle := (sizeV_le s p hp).2.1
  have hlen : ((s.drop p).take (sizeV s p).1).length = (sizeV s p).1 := by rw [List.length_take, List.length_drop]; omega
  have hs : sizeV ((s.drop p).take (sizeV s p).1) 0 = sizeV s p := sizeV_congr h (by omega) (fun j hj => by
    rw [Nat.zero_add, List.getD_eq_getElem?_getD, List.getD_eq_getElem?_getD, List.getElem?_take, if_pos hj, List.getElem?_drop])
  unfold rightV
  rw [decide_eq_true_eq, badV, if_pos (by omega), hs, if_neg h, Nat.zero_add]
  cases hn : ((s.drop p).take (sizeV s p).1).length with
  | zero => rfl
  | succ n => rw [badV, if_neg (by omega)]

end Go.Proofs.YtadpobnajjocnaaGreatDoor.Eng

/-
  A quoted right text is right. No condition.
-/
namespace Go.Proofs.YtadpobnajjocnaaGreatDoor.Eng
open Go
set_option linter.unusedSimpArgs false
set_option linter.unusedVariables false

attribute [local simp] evC_condT evC_condF evC_reg evC_regD evR_cons evR_nil runR_some regK_some evC_ret evC_skip evC_exit Out_seq Out_blk Out_some seqQ_norm seqQ_ret seqQ_exit blkQ_norm blkQ_ret blkQ_exit loopQ_norm loopQ_ret loopQ_exit
attribute [local simp] stepR evOp put upd_apply X.ev initEnv cells_agg cells_int cells_str cells_bool cells_sl cells_ptr cells_pnil cells_fn cells_map takeN evBin isSh intBin strBin callK resOf packR V.plain plainL V.und undL scK kill dstsO dstsL dstsR ite_some ite_pair ite_vbool evUn evLoad evLen V.real finLoop_false quietK_false kill_none
theorem qByte_low {c : UInt8} (h : c.toNat < 128) : ∀ d ∈ qByte c, d.toNat < 128 := by
  have key : ∀ k : Fin 128, (qByte (UInt8.ofNat k.val)).all (fun d => decide (d.toNat < 128)) = true := by decide +kernel
  have := key ⟨c.toNat, h⟩
  simp only [UInt8.ofNat_toNat] at this
  intro d hd
  simpa using List.all_eq_true.1 this d hd

theorem right_flat (b : List UInt8) : ∀ f p, p ≤ b.length → b.length < p + f → badV b f p = -1 → rightV ((b.drop p).flatMap qByte) = true
  | 0, p, hp, hf, _ => by omega
  | f + 1, p, hp, hf, hb => by
    by_cases hlt : p < b.length
    · obtain ⟨hs, hb'⟩ := badV_neg b f p hlt hb
      obtain ⟨h1, h2⟩ := size_bytes b p hlt hs
      have hle := sizeV_le b p hlt
      have ih := right_flat b f _ (by omega) (by omega) hb'
      have hsplit : b.drop p = (b.drop p).take (sizeV b p).1 ++ b.drop (p + (sizeV b p).1) := by rw [← List.drop_drop, List.take_append_drop]
      rw [hsplit, List.flatMap_append]
      refine right_app ?_ ih
      rcases h2 with ⟨g1, g2, g3⟩ | ⟨g1, g2⟩
      · rw [g1, take_drop_getD b p 1 (by omega)]
        refine right_ascii _ ?_
        intro d hd
        simp [List.range_succ] at hd
        exact qByte_low (by simpa using (by omega : (b.getD p 0).toNat < 128)) d (by simpa using hd)
      · rw [flat_high g2]
        exact right_chunk hlt hs
    · rw [List.drop_of_length_le (by omega)]; exact right_nil

theorem right_quote {s : List UInt8} (h : rightV s = true) : rightV (quoteV s) = true := by
  rw [quote_ref s h]
  have hb : badV s (s.length + 1) 0 = -1 := by simpa [rightV] using h
  have hf := right_flat s (s.length + 1) 0 (Nat.zero_le _) (by omega) hb
  rw [List.drop_zero] at hf
  have h34 : rightV [34] = true := right_one (by decide)
  exact right_app (x := [34]) h34 (right_app hf h34)

end Go.Proofs.YtadpobnajjocnaaGreatDoor.Eng

/-
  Joined plain texts are cut into the tokens that they came of. No condition.
-/
namespace Go.Proofs.YtadpobnajjocnaaGreatDoor.Eng
open Go
set_option linter.unusedSimpArgs false
set_option linter.unusedVariables false

attribute [local simp] evC_condT evC_condF evC_reg evC_regD evR_cons evR_nil runR_some regK_some evC_ret evC_skip evC_exit Out_seq Out_blk Out_some seqQ_norm seqQ_ret seqQ_exit blkQ_norm blkQ_ret blkQ_exit loopQ_norm loopQ_ret loopQ_exit
attribute [local simp] stepR evOp put upd_apply X.ev initEnv cells_agg cells_int cells_str cells_bool cells_sl cells_ptr cells_pnil cells_fn cells_map takeN evBin isSh intBin strBin callK resOf packR V.plain plainL V.und undL scK kill dstsO dstsL dstsR ite_some ite_pair ite_vbool evUn evLoad evLen V.real finLoop_false quietK_false kill_none
theorem right_plT {t : Tok} (h : plT t ≠ []) : rightV (plT t) = true := by
  unfold plT at h ⊢
  by_cases hk : t.k = 4
  · rw [if_pos hk] at h ⊢
    by_cases hr : rightV t.s = true
    · rw [if_pos hr]; exact right_quote hr
    · rw [if_neg hr] at h; exact absurd rfl h
  · rw [if_neg hk] at h ⊢
    by_cases hl : lexOne t = true
    · rw [if_pos hl]
      obtain ⟨_, _, _, hb⟩ := lexOne_tok hk hl
      have := badV_ge t.s (t.s.length + 1) 0
      unfold rightV
      rw [decide_eq_true_eq]
      omega
    · rw [if_neg hl] at h; exact absurd rfl h

theorem right_join : ∀ (A : List Tok), anyBad A = false → rightV (Lib.join (A.map plT) [32]) = true
  | [], _ => right_nil
  | [t], h => by
    rw [anyBad_cons, Bool.or_eq_false_iff, decide_eq_false_iff_not] at h
    rw [show Lib.join ([t].map plT) [32] = plT t from Lib.join_one _ _]
    exact right_plT h.1
  | t :: u :: R, h => by
    rw [anyBad_cons, Bool.or_eq_false_iff, decide_eq_false_iff_not] at h
    have ih := right_join (u :: R) h.2
    rw [show Lib.join ((t :: u :: R).map plT) [32] = plT t ++ 32 :: Lib.join ((u :: R).map plT) [32] from join_cons2 _ _ _]
    exact right_app (right_plT h.1) (right_app (x := [32]) (right_one (by decide)) ih)

theorem lexP_plain {A : List Tok} (hb : anyBad A = false) (hA : A.length ≤ 900) (hl : (Lib.join (A.map plT) [32]).length ≤ 4000) :
    ∃ T, lexP (Lib.join (A.map plT) [32]) = (T, 0, 0) ∧ T.map kt = A.map kt := by
  have hr := right_join A hb
  have hbt : betw false (Lib.join (A.map plT) [32]) = Lib.join (A.map plT) [32] := by
    cases A with
    | nil => rfl
    | cons t R =>
      rw [anyBad_cons, Bool.or_eq_false_iff, decide_eq_false_iff_not] at hb
      rw [List.map_cons, Lib.join_cons]
      exact betw_plT hb.1 _
  obtain ⟨T, hT, hk⟩ := lexL_plain (Lib.join (A.map plT) [32]) A ((Lib.join (A.map plT) [32]).length + 1) [] hb (by simpa using hA) (by omega)
  refine ⟨T, ?_, hk⟩
  unfold rightV at hr
  rw [decide_eq_true_eq] at hr
  unfold lexP
  rw [if_neg (by omega), hr, if_neg (by decide), hbt, hT]
  rfl

end Go.Proofs.YtadpobnajjocnaaGreatDoor.Eng

/-
  Tokens, written plainly and cut again, come again: the law in the program. No condition.
-/
namespace Go.Proofs.YtadpobnajjocnaaGreatDoor.Eng
open Go
set_option linter.unusedSimpArgs false
set_option linter.unusedVariables false

attribute [local simp] evC_condT evC_condF evC_reg evC_regD evR_cons evR_nil runR_some regK_some evC_ret evC_skip evC_exit Out_seq Out_blk Out_some seqQ_norm seqQ_ret seqQ_exit blkQ_norm blkQ_ret blkQ_exit loopQ_norm loopQ_ret loopQ_exit
attribute [local simp] stepR evOp put upd_apply X.ev initEnv cells_agg cells_int cells_str cells_bool cells_sl cells_ptr cells_pnil cells_fn cells_map takeN evBin isSh intBin strBin callK resOf packR V.plain plainL V.und undL scK kill dstsO dstsL dstsR ite_some ite_pair ite_vbool evUn evLoad evLen V.real finLoop_false quietK_false kill_none
theorem plT_len60 (t : Tok) (h : t.s.length ≤ 60) : (plT t).length ≤ 362 := by
  unfold plT
  split
  · split
    · rename_i hr
      have := flat_len t.s
      rw [quote_ref _ hr]
      unfold quoteR
      simp only [List.length_cons, List.length_append, List.length_nil]
      omega
    · simp
  · split
    · omega
    · simp

theorem back_law (A : List Tok) (s : St) : ∃ s', call G 5 [.sl .no (tokVs A)] s = some (.bool true, s') := by
  have hpl := tokVs_plain A
  have ha := awake_spec
  have hf := few_spec A 10
  refine ⟨s, ?_⟩
  refine call_out (F := af5) rfl rfl ?_
  by_cases h : fewP 10 A = true
  · obtain ⟨h1, h2⟩ := few_of (by decide) h
    have hp1 := plain12_spec A (by omega) (fun t ht => by have := h2 t ht; omega)
    have hlen := tot_le (A.map plT) 362 (fun x hx => by
      obtain ⟨t, ht, rfl⟩ := List.mem_map.1 hx
      exact plT_len60 t (h2 t ht))
    rw [List.length_map] at hlen
    have hj := tot_join (A.map plT) 32
    by_cases hp : plainP A = []
    · rw [hp] at hp1
      simp [af5, af5b, ha, hpl, hf, h, hp1]
      rw [fin_id _ (v := .bool _) rfl]
      rfl
    · have hb : anyBad A = false := by
        cases hb : anyBad A with
        | false => rfl
        | true => exact absurd (by unfold plainP; rw [if_pos hb]) hp
      have hpe : plainP A = Lib.join (A.map plT) [32] := by unfold plainP; rw [if_neg (by simp [hb])]
      obtain ⟨T, hT, hk⟩ := lexP_plain hb (by omega) (by omega)
      rw [← hpe] at hT
      have hlx := lex_spec (plainP A) (by rw [hpe]; omega)
      rw [hT] at hlx
      have hsm := sameN_spec A T (by omega) hk.symm
      have hpT := tokVs_plain T
      have hpf : (plainP A = []) = False := eq_false hp
      generalize plainP A = P at *
      clear hj hlen
      simp [af5, af5b, ha, hpl, hpT, hf, h, hp1, hpf, hlx, hsm, fillL, putL, evStore, V.one, evEqs, eqCells, eqCell]
      rw [fin_s0 _ _ _ (by rfl)]
      rfl
  · have h' : fewP 10 A = false := by simpa using h
    simp [af5, af5b, ha, hpl, hf, h']
    rw [fin_id _ (v := .bool _) rfl]
    rfl

end Go.Proofs.YtadpobnajjocnaaGreatDoor.Eng
