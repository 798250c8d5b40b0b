/-
  Many names; a long remark: what is cut of them. No condition.
-/
import Derived.Test.YtadpobnajjocnaaDoorTBacks
namespace Go.Proofs.YtadpobnajjocnaaDoor.Eng
open Go
set_option linter.unusedSimpArgs false
set_option linter.unusedVariables false

attribute [local simp] evC_condT evC_condF evC_reg evC_regD evR_cons evR_nil runR_some regK_some evC_ret evC_skip evC_exit Out_seq Out_blk Out_some seqQ_norm seqQ_ret seqQ_exit blkQ_norm blkQ_ret blkQ_exit loopQ_norm loopQ_ret loopQ_exit
attribute [local simp] stepR evOp put upd_apply X.ev initEnv cells_agg cells_int cells_str cells_bool cells_sl cells_ptr cells_pnil cells_fn cells_map takeN evBin isSh intBin strBin callK resOf packR V.plain plainL V.und undL scK kill dstsO dstsL dstsR ite_some ite_pair ite_vbool evUn evLoad evLen V.real finLoop_false quietK_false kill_none
/-! ### Many names -/
def aSp : Nat → List UInt8
  | 0 => []
  | k + 1 => 97 :: 32 :: aSp k
theorem aSp_len : ∀ k, (aSp k).length = 2 * k
  | 0 => rfl
  | k + 1 => by simp only [aSp, List.length_cons, aSp_len k]; omega
theorem aSp_snoc : ∀ k, aSp k ++ [97, 32] = aSp (k + 1)
  | 0 => rfl
  | k + 1 => by
    have := aSp_snoc k
    simp only [aSp, List.cons_append] at this ⊢
    rw [this]
theorem aSp_low : ∀ k, ∀ c ∈ aSp k, c.toNat < 128
  | 0, c, h => by simp [aSp] at h
  | k + 1, c, h => by
    simp only [aSp, List.mem_cons] at h
    rcases h with rfl | rfl | h
    · decide
    · decide
    · exact aSp_low k c h
theorem badV_low {b : List UInt8} (h : ∀ c ∈ b, c.toNat < 128) : ∀ f p, badV b f p = -1
  | 0, p => rfl
  | f + 1, p => by
    rw [badV]
    split
    · rename_i hp
      have hc : (b.getD p 0).toNat < 128 := by
        rw [List.getD_eq_getElem?_getD, List.getElem?_eq_getElem hp]
        exact h _ (List.getElem_mem hp)
      have hs : sizeV b p = (1, (b.getD p 0).toNat) := by
        unfold sizeV
        simp only
        rw [if_pos hc]
      rw [hs, if_neg (by simp)]
      exact badV_low h f _
    · rfl
theorem tokP_a (r : List UInt8) : tokP (97 :: 32 :: r) = .ok (2, [97]) (32 :: r) := by
  have h3 : begs (97 :: 32 :: r) d3 = false := by
    rw [begs_pre]; rfl
  have h1 : hd0 (97 :: 32 :: r) = 97 := rfl
  unfold tokP
  rw [h1, if_neg (by decide), h3, if_neg (by decide), if_pos (by decide)]
  rfl
theorem betw_aSp (k : Nat) : betw false (32 :: aSp k) = aSp k := by
  rw [betw, if_pos (by decide)]
  cases k with
  | zero => rfl
  | succ k => rw [aSp, betw, if_neg (by decide), if_neg (by decide)]
theorem lexL_a (b : List UInt8) : ∀ (k n : Nat) (toks : List Tok), 2 * k < n →
    (toks.length + k ≤ 900 → ∃ T, lexL b n (aSp k) toks = .ok (toks ++ T) [] ∧ T.length = k) ∧
    (900 < toks.length + k → toks.length ≤ 900 → lexL b n (aSp k) toks = .err (aSp (toks.length + k - 900)) 6) := by
  intro k
  induction k with
  | zero =>
    intro n toks hn
    obtain ⟨n, rfl⟩ : ∃ m, n = m + 1 := ⟨n - 1, by omega⟩
    refine ⟨fun _ => ⟨[], by rw [aSp, lexL, if_pos rfl, List.append_nil], rfl⟩, fun h1 h2 => by omega⟩
  | succ k ih =>
    intro n toks hn
    obtain ⟨n, rfl⟩ : ∃ m, n = m + 1 := ⟨n - 1, by omega⟩
    have hne : aSp (k + 1) ≠ [] := by simp [aSp]
    obtain ⟨i1, i2⟩ := ih n (toks ++ [⟨2, [97], ((b.length - (aSp (k + 1)).length : Nat) : Int)⟩]) (by omega)
    have hl : (toks ++ [(⟨2, [97], ((b.length - (aSp (k + 1)).length : Nat) : Int)⟩ : Tok)]).length = toks.length + 1 := by simp
    rw [hl] at i1 i2
    have hstep : toks.length ≠ 900 → lexL b (n + 1) (aSp (k + 1)) toks = lexL b n (aSp k) (toks ++ [⟨2, [97], ((b.length - (aSp (k + 1)).length : Nat) : Int)⟩]) := by
      intro h
      rw [lexL, if_neg hne, if_neg h, show tokP (aSp (k + 1)) = .ok (2, [97]) (32 :: aSp k) from tokP_a _]
      simp only
      rw [betw_aSp]
    constructor
    · intro h
      obtain ⟨T, hT, hTl⟩ := i1 (by omega)
      refine ⟨⟨2, [97], ((b.length - (aSp (k + 1)).length : Nat) : Int)⟩ :: T, ?_, by simp [hTl]⟩
      rw [hstep (by omega), hT]
      simp
    · intro h1 h2
      by_cases h9 : toks.length = 900
      · rw [lexL, if_neg hne, if_pos h9, h9]
        rw [show 900 + (k + 1) - 900 = k + 1 by omega]
      · rw [hstep h9, i2 (by omega) (by omega)]
        rw [show toks.length + 1 + k - 900 = toks.length + (k + 1) - 900 by omega]
theorem lexP_a (k : Nat) (hk : k ≤ 1000) : (k ≤ 900 → ∃ T, lexP (aSp k) = (T, 0, 0) ∧ T.length = k) ∧ (900 < k → lexP (aSp k) = ([], 6, 1800)) := by
  have hl := aSp_len k
  have hb := badV_low (aSp_low k) ((aSp k).length + 1) 0
  have hbt : betw false (aSp k) = aSp k := by
    cases k with
    | zero => rfl
    | succ k => rw [aSp, betw, if_neg (by decide), if_neg (by decide)]
  obtain ⟨h1, h2⟩ := lexL_a (aSp k) k ((aSp k).length + 1) [] (by omega)
  simp only [List.length_nil, Nat.zero_add, List.nil_append] at h1 h2
  have hu : lexP (aSp k) = match lexL (aSp k) ((aSp k).length + 1) (aSp k) [] with
    | .ok toks _ => (toks, 0, 0)
    | .err l e => ([], e, (((aSp k).length - l.length : Nat) : Int)) := by
    rw [lexP, if_neg (by omega), hb, if_neg (by decide), hbt]
    cases lexL (aSp k) ((aSp k).length + 1) (aSp k) [] <;> rfl
  rw [hu]
  constructor
  · intro h
    obtain ⟨T, hT, hTl⟩ := h1 h
    exact ⟨T, by rw [hT], hTl⟩
  · intro h
    rw [h2 (by omega) (by omega)]
    simp only [aSp_len]
    rw [show 2 * k - 2 * (k - 900) = 1800 by omega]
    rfl

/-! ### A long remark -/
def xs (n : Nat) : List UInt8 := 35 :: List.replicate n 120
theorem betw_xs (n : Nat) : betw false (xs n) = [] := by
  have : ∀ n, betw true (List.replicate n 120) = [] := by
    intro n
    induction n with
    | zero => rfl
    | succ n ih => rw [List.replicate_succ, betw, if_pos (by decide)]; exact ih
  rw [xs, betw, if_neg (by decide), if_pos rfl]
  exact this n
theorem lexP_xs (n : Nat) : lexP (xs n) = if 4000 < n + 1 then ([], 6, 0) else ([], 0, 0) := by
  have hl : (xs n).length = n + 1 := by simp [xs]
  have hb : badV (xs n) ((xs n).length + 1) 0 = -1 := badV_low (fun c hc => by
    simp only [xs, List.mem_cons, List.mem_replicate] at hc
    rcases hc with rfl | ⟨_, rfl⟩ <;> decide) _ _
  unfold lexP
  rw [hl] at hb ⊢
  split
  · rfl
  · rw [hb, if_neg (by decide), betw_xs, lexL, if_pos rfl]

end Go.Proofs.YtadpobnajjocnaaDoor.Eng
