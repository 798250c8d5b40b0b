/-
  Cutting a text into tokens: the program and the reference tell the same. No condition.
-/
import Derived.Test.YtadpobnajjocnaaDoorTRefs
namespace Go.Proofs.YtadpobnajjocnaaDoor.Eng
open Go
set_option linter.unusedSimpArgs false
set_option linter.unusedVariables false

attribute [local simp] evC_condT evC_condF evC_reg evC_regD evR_cons evR_nil runR_some regK_some evC_ret evC_skip evC_exit Out_seq Out_blk Out_some seqQ_norm seqQ_ret seqQ_exit blkQ_norm blkQ_ret blkQ_exit loopQ_norm loopQ_ret loopQ_exit
attribute [local simp] stepR evOp put upd_apply X.ev initEnv cells_agg cells_int cells_str cells_bool cells_sl cells_ptr cells_pnil cells_fn cells_map takeN evBin isSh intBin strBin callK resOf packR V.plain plainL V.und undL scK kill dstsO dstsL dstsR ite_some ite_pair ite_vbool evUn evLoad evLen V.real finLoop_false quietK_false kill_none
theorem lex_awake : lexP [123, 97, 125] = ([⟨1, [123], 0⟩, ⟨2, [97], 1⟩, ⟨1, [125], 2⟩], 0, 0) := by rfl

theorem awake_spec (s : St) : call G 5 [] s = some (.bool true, s) := by
  have hl := lex_spec [123, 97, 125] (by decide)
  rw [lex_awake] at hl
  simp only [tokVs, tokV, List.map] at hl
  refine call_out (F := af5) rfl rfl ?_
  simp [af5, af5b, hl, fillL, putL, evStore, V.one]
  rw [fin_s0 _ _ _ (by rfl)]
  rfl

end Go.Proofs.YtadpobnajjocnaaDoor.Eng
