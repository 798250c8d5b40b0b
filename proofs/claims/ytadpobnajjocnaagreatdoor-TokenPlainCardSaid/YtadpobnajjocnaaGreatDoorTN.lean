/-
  Cutting a text into tokens: the program and the reference tell the same. No condition.
-/
import Derived.Test.YtadpobnajjocnaaGreatDoorTRefs
namespace Go.Proofs.YtadpobnajjocnaaGreatDoor.Eng
open Go
set_option linter.unusedSimpArgs false
set_option linter.unusedVariables false

attribute [local simp] evC_condT evC_condF evC_reg evC_regD evR_cons evR_nil runR_some regK_some evC_ret evC_skip evC_exit Out_seq Out_blk Out_some seqQ_norm seqQ_ret seqQ_exit blkQ_norm blkQ_ret blkQ_exit loopQ_norm loopQ_ret loopQ_exit
attribute [local simp] stepR evOp put upd_apply X.ev initEnv cells_agg cells_int cells_str cells_bool cells_sl cells_ptr cells_pnil cells_fn cells_map takeN evBin isSh intBin strBin callK resOf packR V.plain plainL V.und undL scK kill dstsO dstsL dstsR ite_some ite_pair ite_vbool evUn evLoad evLen V.real finLoop_false quietK_false kill_none
theorem sameAA_spec (A : List Tok) (hA : A.length ≤ 1000000000) (p : Bool) (s : St) : call G 10 [.sl .no (tokVs A), .sl .no (tokVs A), .bool p] s = some (.bool true, s) := by
  have htl := tokVs_len A
  refine call_out (F := af10) rfl rfl ?_
  have hpl := tokVs_plain A
  simp [af10, af10b, htl]
  refine Out.mono (sameLoop A hA p s A.length 0 _ (by omega) (by omega) (by simp [hpl]) (by simp [hpl]) (by simp) (by simp)) ?_
  rintro ex env' s' ⟨rfl, rfl⟩
  simp
  rw [fin_id _ (v := .bool _) rfl]
  rfl

theorem lexP_len (b : List UInt8) : (lexP b).1.length ≤ 1000000000 := by
  have key : ∀ (n : Nat) (l : List UInt8) (toks t2 : List Tok) (l2 : List UInt8), toks.length ≤ 900 → lexL b n l toks = .ok t2 l2 → t2.length ≤ 900 := by
    intro n
    induction n with
    | zero => intro l toks t2 l2 _ h; cases h
    | succ n ih =>
      intro l toks t2 l2 ht h
      rw [lexL] at h
      split at h
      · cases h; exact ht
      · split at h
        · cases h
        · rename_i hne
          cases hT : tokP l with
          | err l' e => rw [hT] at h; cases h
          | ok kt l' => rw [hT] at h; exact ih _ _ _ _ (by simp; omega) h
  unfold lexP
  split
  · simp
  · split
    · simp
    · cases hL : lexL b (b.length + 1) (betw false b) [] with
      | ok toks l' => have := key _ _ _ _ _ (by simp) hL; simp only; omega
      | err l' e => simp

theorem lex_awake : lexP [123, 97, 125] = ([⟨1, [123], 0⟩, ⟨2, [97], 1⟩, ⟨1, [125], 2⟩], 0, 0) := by rfl

theorem awake_spec (s : St) : call G 7 [] s = some (.bool true, s) := by
  have hl := lex_spec [123, 97, 125] (by decide)
  rw [lex_awake] at hl
  simp only [tokVs, tokV, List.map] at hl
  refine call_out (F := af7) rfl rfl ?_
  simp [af7, af7b, hl, fillL, putL, evStore, V.one]
  rw [fin_s0 _ _ _ (by rfl)]
  rfl

theorem cuts_spec (b : List UInt8) (hb : b.length ≤ 9223372036854775807) (s : St) : ∃ s', call G 3 [.str b] s = some (.bool true, s') := by
  have ha := awake_spec
  have hl := lex_spec b hb
  have hr := rlex_spec b hb
  have hs := sameAA_spec (lexP b).1 (lexP_len b) true
  have hp := tokVs_plain (lexP b).1
  refine ⟨s, ?_⟩
  refine call_out (F := af3) rfl rfl ?_
  by_cases h : 600 < b.length
  · have h' : (600 : Int) < (b.length : Int) := by omega
    simp [af3, af3b, ha, h, h']
    rw [fin_id _ (v := .bool _) rfl]
    rfl
  · have h' : ¬ (600 : Int) < (b.length : Int) := by omega
    generalize (lexP b).1 = A at *
    generalize (lexP b).2.1 = x at *
    generalize (lexP b).2.2 = y at *
    simp [af3, af3b, ha, h, h', hl, hr, hs, hp, fillL, putL, evStore, V.one, evEqs, eqCells, eqCell]
    rw [fin_s0 _ _ _ (by rfl)]
    rfl

end Go.Proofs.YtadpobnajjocnaaGreatDoor.Eng
