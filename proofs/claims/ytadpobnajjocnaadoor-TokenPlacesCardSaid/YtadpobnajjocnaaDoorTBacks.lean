/-
  Tokens: what the functions do, one behind the other. No condition.
-/
import Derived.Test.YtadpobnajjocnaaDoorTPlains
/-
  Tokens come again: what stands behind a token's text does not change it. No condition.
-/
namespace Go.Proofs.YtadpobnajjocnaaDoor.Eng
open Go
set_option linter.unusedSimpArgs false
set_option linter.unusedVariables false

attribute [local simp] evC_condT evC_condF evC_reg evC_regD evR_cons evR_nil runR_some regK_some evC_ret evC_skip evC_exit Out_seq Out_blk Out_some seqQ_norm seqQ_ret seqQ_exit blkQ_norm blkQ_ret blkQ_exit loopQ_norm loopQ_ret loopQ_exit
attribute [local simp] stepR evOp put upd_apply X.ev initEnv cells_agg cells_int cells_str cells_bool cells_sl cells_ptr cells_pnil cells_fn cells_map takeN evBin isSh intBin strBin callK resOf packR V.plain plainL V.und undL scK kill dstsO dstsL dstsR ite_some ite_pair ite_vbool evUn evLoad evLen V.real finLoop_false quietK_false kill_none
def kt (t : Tok) : Int × List UInt8 := (t.k, t.s)
/-! ### What stands behind -/
end Go.Proofs.YtadpobnajjocnaaDoor.Eng

/-
  One token's text: what is consumed. No condition.
-/
namespace Go.Proofs.YtadpobnajjocnaaDoor.Eng
open Go
set_option linter.unusedSimpArgs false
set_option linter.unusedVariables false

attribute [local simp] evC_condT evC_condF evC_reg evC_regD evR_cons evR_nil runR_some regK_some evC_ret evC_skip evC_exit Out_seq Out_blk Out_some seqQ_norm seqQ_ret seqQ_exit blkQ_norm blkQ_ret blkQ_exit loopQ_norm loopQ_ret loopQ_exit
attribute [local simp] stepR evOp put upd_apply X.ev initEnv cells_agg cells_int cells_str cells_bool cells_sl cells_ptr cells_pnil cells_fn cells_map takeN evBin isSh intBin strBin callK resOf packR V.plain plainL V.und undL scK kill dstsO dstsL dstsR ite_some ite_pair ite_vbool evUn evLoad evLen V.real finLoop_false quietK_false kill_none
theorem tokP_cons {l l' s : List UInt8} {k : Int} (hne : l ≠ []) (h : tokP l = .ok (k, s) l') (hk : k ≠ 4) : l = s ++ l' := by
  unfold tokP at h
  split at h
  · cases h
    obtain ⟨c, t, rfl⟩ := List.exists_cons_of_ne_nil hne
    rfl
  · split at h
    · rename_i hb
      cases h
      rw [begs_pre, List.isPrefixOf_iff_prefix] at hb
      obtain ⟨r, rfl⟩ := hb
      rfl
    · split at h
      · cases h
        exact List.takeWhile_append_dropWhile.symm
      · split at h
        · unfold tnum at h
          split at h
          · cases h
          · split at h
            · cases h
            · cases h
              exact ttx_eq l hne
        · split at h
          · exfalso
            unfold traw at h
            split at h
            · cases h
            · split at h
              · cases h
              · cases h; exact hk rfl
          · split at h
            · exfalso
              unfold tquo at h
              split at h
              · cases h
              · cases h; exact hk rfl
            · cases h

theorem lexL_pre (b : List UInt8) : ∀ (n : Nat) (l l2 : List UInt8) (toks t2 : List Tok), lexL b n l toks = .ok t2 l2 → toks <+: t2 := by
  intro n
  induction n with
  | zero => intro l l2 toks t2 h; cases h
  | succ n ih =>
    intro l l2 toks t2 h
    rw [lexL] at h
    split at h
    · cases h; exact List.prefix_refl _
    · split at h
      · cases h
      · cases hT : tokP l with
        | err l' e => rw [hT] at h; cases h
        | ok kt l' =>
          rw [hT] at h
          exact (List.prefix_append _ _).trans (ih _ _ _ _ h)

theorem lexP_ok {b : List UInt8} {toks : List Tok} (h : (lexP b).2.1 = 0) (h1 : (lexP b).1 = toks) : b.length ≤ 4000 ∧ badV b (b.length + 1) 0 < 0 ∧ ∃ l2, lexL b (b.length + 1) (betw false b) [] = .ok toks l2 := by
  unfold lexP at h h1
  split at h
  · cases h
  · rename_i c1
    rw [if_neg c1] at h1
    split at h
    · cases h
    · rename_i c2
      rw [if_neg c2] at h1
      cases hL : lexL b (b.length + 1) (betw false b) [] with
      | ok t l2 =>
        rw [hL] at h1
        simp only at h1
        subst h1
        exact ⟨by omega, by omega, l2, rfl⟩
      | err l e =>
        rw [hL] at h
        simp only at h
        exfalso
        subst h
        revert hL
        have key : ∀ (n : Nat) (l l2 : List UInt8) (toks : List Tok), lexL b n l toks ≠ .err l2 0 := by
          intro n
          induction n with
          | zero => intro l l2 toks h; cases h
          | succ n ih =>
            intro l l2 toks h
            rw [lexL] at h
            split at h
            · cases h
            · split at h
              · cases h
              · cases hT : tokP l with
                | err l' e =>
                  rw [hT] at h
                  have := tokP_err hT
                  simp only [PR.err.injEq] at h
                  omega
                | ok kt l' => rw [hT] at h; exact ih _ _ _ h
        exact key _ _ _ _

end Go.Proofs.YtadpobnajjocnaaDoor.Eng

/-
  A token's text with a blank behind it. No condition.
-/
namespace Go.Proofs.YtadpobnajjocnaaDoor.Eng
open Go
set_option linter.unusedSimpArgs false
set_option linter.unusedVariables false

attribute [local simp] evC_condT evC_condF evC_reg evC_regD evR_cons evR_nil runR_some regK_some evC_ret evC_skip evC_exit Out_seq Out_blk Out_some seqQ_norm seqQ_ret seqQ_exit blkQ_norm blkQ_ret blkQ_exit loopQ_norm loopQ_ret loopQ_exit
attribute [local simp] stepR evOp put upd_apply X.ev initEnv cells_agg cells_int cells_str cells_bool cells_sl cells_ptr cells_pnil cells_fn cells_map takeN evBin isSh intBin strBin callK resOf packR V.plain plainL V.und undL scK kill dstsO dstsL dstsR ite_some ite_pair ite_vbool evUn evLoad evLen V.real finLoop_false quietK_false kill_none
end Go.Proofs.YtadpobnajjocnaaDoor.Eng

/-
  A quoted text as a token. No condition.
-/
namespace Go.Proofs.YtadpobnajjocnaaDoor.Eng
open Go
set_option linter.unusedSimpArgs false
set_option linter.unusedVariables false

attribute [local simp] evC_condT evC_condF evC_reg evC_regD evR_cons evR_nil runR_some regK_some evC_ret evC_skip evC_exit Out_seq Out_blk Out_some seqQ_norm seqQ_ret seqQ_exit blkQ_norm blkQ_ret blkQ_exit loopQ_norm loopQ_ret loopQ_exit
attribute [local simp] stepR evOp put upd_apply X.ev initEnv cells_agg cells_int cells_str cells_bool cells_sl cells_ptr cells_pnil cells_fn cells_map takeN evBin isSh intBin strBin callK resOf packR V.plain plainL V.und undL scK kill dstsO dstsL dstsR ite_some ite_pair ite_vbool evUn evLoad evLen V.real finLoop_false quietK_false kill_none
end Go.Proofs.YtadpobnajjocnaaDoor.Eng

/-
  Plain texts begin with no separator; they are cut again, one behind the other. No condition.
-/
namespace Go.Proofs.YtadpobnajjocnaaDoor.Eng
open Go
set_option linter.unusedSimpArgs false
set_option linter.unusedVariables false

attribute [local simp] evC_condT evC_condF evC_reg evC_regD evR_cons evR_nil runR_some regK_some evC_ret evC_skip evC_exit Out_seq Out_blk Out_some seqQ_norm seqQ_ret seqQ_exit blkQ_norm blkQ_ret blkQ_exit loopQ_norm loopQ_ret loopQ_exit
attribute [local simp] stepR evOp put upd_apply X.ev initEnv cells_agg cells_int cells_str cells_bool cells_sl cells_ptr cells_pnil cells_fn cells_map takeN evBin isSh intBin strBin callK resOf packR V.plain plainL V.und undL scK kill dstsO dstsL dstsR ite_some ite_pair ite_vbool evUn evLoad evLen V.real finLoop_false quietK_false kill_none
end Go.Proofs.YtadpobnajjocnaaDoor.Eng

/-
  Plain texts with blanks between are cut into the same tokens. No condition.
-/
namespace Go.Proofs.YtadpobnajjocnaaDoor.Eng
open Go
set_option linter.unusedSimpArgs false
set_option linter.unusedVariables false

attribute [local simp] evC_condT evC_condF evC_reg evC_regD evR_cons evR_nil runR_some regK_some evC_ret evC_skip evC_exit Out_seq Out_blk Out_some seqQ_norm seqQ_ret seqQ_exit blkQ_norm blkQ_ret blkQ_exit loopQ_norm loopQ_ret loopQ_exit
attribute [local simp] stepR evOp put upd_apply X.ev initEnv cells_agg cells_int cells_str cells_bool cells_sl cells_ptr cells_pnil cells_fn cells_map takeN evBin isSh intBin strBin callK resOf packR V.plain plainL V.und undL scK kill dstsO dstsL dstsR ite_some ite_pair ite_vbool evUn evLoad evLen V.real finLoop_false quietK_false kill_none
end Go.Proofs.YtadpobnajjocnaaDoor.Eng

/-
  Right texts joined are right: a character at a place, in a longer text. No condition.
-/
namespace Go.Proofs.YtadpobnajjocnaaDoor.Eng
open Go
set_option linter.unusedSimpArgs false
set_option linter.unusedVariables false

attribute [local simp] evC_condT evC_condF evC_reg evC_regD evR_cons evR_nil runR_some regK_some evC_ret evC_skip evC_exit Out_seq Out_blk Out_some seqQ_norm seqQ_ret seqQ_exit blkQ_norm blkQ_ret blkQ_exit loopQ_norm loopQ_ret loopQ_exit
attribute [local simp] stepR evOp put upd_apply X.ev initEnv cells_agg cells_int cells_str cells_bool cells_sl cells_ptr cells_pnil cells_fn cells_map takeN evBin isSh intBin strBin callK resOf packR V.plain plainL V.und undL scK kill dstsO dstsL dstsR ite_some ite_pair ite_vbool evUn evLoad evLen V.real finLoop_false quietK_false kill_none
end Go.Proofs.YtadpobnajjocnaaDoor.Eng

/-
  Right texts joined are right. No condition.
-/
namespace Go.Proofs.YtadpobnajjocnaaDoor.Eng
open Go
set_option linter.unusedSimpArgs false
set_option linter.unusedVariables false

attribute [local simp] evC_condT evC_condF evC_reg evC_regD evR_cons evR_nil runR_some regK_some evC_ret evC_skip evC_exit Out_seq Out_blk Out_some seqQ_norm seqQ_ret seqQ_exit blkQ_norm blkQ_ret blkQ_exit loopQ_norm loopQ_ret loopQ_exit
attribute [local simp] stepR evOp put upd_apply X.ev initEnv cells_agg cells_int cells_str cells_bool cells_sl cells_ptr cells_pnil cells_fn cells_map takeN evBin isSh intBin strBin callK resOf packR V.plain plainL V.und undL scK kill dstsO dstsL dstsR ite_some ite_pair ite_vbool evUn evLoad evLen V.real finLoop_false quietK_false kill_none
end Go.Proofs.YtadpobnajjocnaaDoor.Eng

/-
  ASCII texts are right; so is a character by itself. No condition.
-/
namespace Go.Proofs.YtadpobnajjocnaaDoor.Eng
open Go
set_option linter.unusedSimpArgs false
set_option linter.unusedVariables false

attribute [local simp] evC_condT evC_condF evC_reg evC_regD evR_cons evR_nil runR_some regK_some evC_ret evC_skip evC_exit Out_seq Out_blk Out_some seqQ_norm seqQ_ret seqQ_exit blkQ_norm blkQ_ret blkQ_exit loopQ_norm loopQ_ret loopQ_exit
attribute [local simp] stepR evOp put upd_apply X.ev initEnv cells_agg cells_int cells_str cells_bool cells_sl cells_ptr cells_pnil cells_fn cells_map takeN evBin isSh intBin strBin callK resOf packR V.plain plainL V.und undL scK kill dstsO dstsL dstsR ite_some ite_pair ite_vbool evUn evLoad evLen V.real finLoop_false quietK_false kill_none
end Go.Proofs.YtadpobnajjocnaaDoor.Eng

/-
  A quoted right text is right. No condition.
-/
namespace Go.Proofs.YtadpobnajjocnaaDoor.Eng
open Go
set_option linter.unusedSimpArgs false
set_option linter.unusedVariables false

attribute [local simp] evC_condT evC_condF evC_reg evC_regD evR_cons evR_nil runR_some regK_some evC_ret evC_skip evC_exit Out_seq Out_blk Out_some seqQ_norm seqQ_ret seqQ_exit blkQ_norm blkQ_ret blkQ_exit loopQ_norm loopQ_ret loopQ_exit
attribute [local simp] stepR evOp put upd_apply X.ev initEnv cells_agg cells_int cells_str cells_bool cells_sl cells_ptr cells_pnil cells_fn cells_map takeN evBin isSh intBin strBin callK resOf packR V.plain plainL V.und undL scK kill dstsO dstsL dstsR ite_some ite_pair ite_vbool evUn evLoad evLen V.real finLoop_false quietK_false kill_none
end Go.Proofs.YtadpobnajjocnaaDoor.Eng

/-
  Joined plain texts are cut into the tokens that they came of. No condition.
-/
namespace Go.Proofs.YtadpobnajjocnaaDoor.Eng
open Go
set_option linter.unusedSimpArgs false
set_option linter.unusedVariables false

attribute [local simp] evC_condT evC_condF evC_reg evC_regD evR_cons evR_nil runR_some regK_some evC_ret evC_skip evC_exit Out_seq Out_blk Out_some seqQ_norm seqQ_ret seqQ_exit blkQ_norm blkQ_ret blkQ_exit loopQ_norm loopQ_ret loopQ_exit
attribute [local simp] stepR evOp put upd_apply X.ev initEnv cells_agg cells_int cells_str cells_bool cells_sl cells_ptr cells_pnil cells_fn cells_map takeN evBin isSh intBin strBin callK resOf packR V.plain plainL V.und undL scK kill dstsO dstsL dstsR ite_some ite_pair ite_vbool evUn evLoad evLen V.real finLoop_false quietK_false kill_none
end Go.Proofs.YtadpobnajjocnaaDoor.Eng

/-
  Tokens, written plainly and cut again, come again: the law in the program. No condition.
-/
namespace Go.Proofs.YtadpobnajjocnaaDoor.Eng
open Go
set_option linter.unusedSimpArgs false
set_option linter.unusedVariables false

attribute [local simp] evC_condT evC_condF evC_reg evC_regD evR_cons evR_nil runR_some regK_some evC_ret evC_skip evC_exit Out_seq Out_blk Out_some seqQ_norm seqQ_ret seqQ_exit blkQ_norm blkQ_ret blkQ_exit loopQ_norm loopQ_ret loopQ_exit
attribute [local simp] stepR evOp put upd_apply X.ev initEnv cells_agg cells_int cells_str cells_bool cells_sl cells_ptr cells_pnil cells_fn cells_map takeN evBin isSh intBin strBin callK resOf packR V.plain plainL V.und undL scK kill dstsO dstsL dstsR ite_some ite_pair ite_vbool evUn evLoad evLen V.real finLoop_false quietK_false kill_none
end Go.Proofs.YtadpobnajjocnaaDoor.Eng
