/-
  Tokens with pieces between are cut into the same tokens. No condition.
-/
import Derived.Test.YtadpobnajjocnaaGreatDoorVD
namespace Go.Proofs.YtadpobnajjocnaaGreatDoor.Eng
open Go
set_option linter.unusedSimpArgs false
set_option linter.unusedVariables false

attribute [local simp] evC_condT evC_condF evC_reg evC_regD evR_cons evR_nil runR_some regK_some evC_ret evC_skip evC_exit Out_seq Out_blk Out_some seqQ_norm seqQ_ret seqQ_exit blkQ_norm blkQ_ret blkQ_exit loopQ_norm loopQ_ret loopQ_exit
attribute [local simp] stepR evOp put upd_apply X.ev initEnv cells_agg cells_int cells_str cells_bool cells_sl cells_ptr cells_pnil cells_fn cells_map takeN evBin isSh intBin strBin callK resOf packR V.plain plainL V.und undL scK kill dstsO dstsL dstsR ite_some ite_pair ite_vbool evUn evLoad evLen V.real finLoop_false quietK_false kill_none
/-! ### Pieces between tokens -/
def pieceT (n : Nat) : List UInt8 :=
  match n with
  | 0 => [] | 1 => [32] | 2 => [44] | 3 => [10] | 4 => [9, 13, 10] | 5 => [35, 123, 97, 10] | _ => [35, 32, 34, 13]
theorem pieceT_betw (n : Nat) (x : List UInt8) : betw false (pieceT n ++ x) = betw false x := by
  unfold pieceT
  split <;> simp [betw, isSep, notNl]
theorem pieceT_low (n : Nat) : ∀ c ∈ pieceT n, c.toNat < 128 := by
  unfold pieceT
  split <;> decide
theorem pieceT_len (n : Nat) : (pieceT n).length ≤ 4 := by
  unfold pieceT
  split <;> decide
/-- Tokens, each with a blank and a piece behind it. -/
def restT (P : Nat → List UInt8) : List Tok → Nat → List UInt8
  | [], _ => []
  | t :: A, i => (plT t ++ 32 :: P (i + 1)) ++ restT P A (i + 1)

section
variable {P : Nat → List UInt8}
theorem restT_cons (t : Tok) (A : List Tok) (i : Nat) (x : List UInt8) : x ++ restT P (t :: A) i = x ++ (plT t ++ 32 :: (P (i + 1) ++ restT P A (i + 1))) := by
  rw [restT]; simp
theorem lexL_pieces (hP : ∀ i x, betw false (P i ++ x) = betw false x) (b : List UInt8) : ∀ (A : List Tok) (i n : Nat) (toks : List Tok), anyBad A = false → toks.length + A.length ≤ 900 → (P i ++ restT P A i).length < n →
    ∃ T, lexL b n (betw false (P i ++ restT P A i)) toks = .ok (toks ++ T) [] ∧ T.map kt = A.map kt := by
  intro A
  induction A with
  | nil =>
    intro i n toks _ _ hn
    obtain ⟨n, rfl⟩ : ∃ m, n = m + 1 := ⟨n - 1, by omega⟩
    refine ⟨[], ?_, rfl⟩
    rw [hP]
    show lexL b (n + 1) (betw false []) toks = _
    rw [show betw false [] = [] from rfl, lexL, if_pos rfl, List.append_nil]
  | cons t R ih =>
    intro i n toks hb hl hn
    obtain ⟨n, rfl⟩ : ∃ m, n = m + 1 := ⟨n - 1, by omega⟩
    rw [anyBad_cons, Bool.or_eq_false_iff, decide_eq_false_iff_not] at hb
    obtain ⟨ht, hR⟩ := hb
    simp only [List.length_cons] at hl
    rw [restT_cons] at hn ⊢
    generalize hZ : P (i + 1) ++ restT P R (i + 1) = Z at *
    obtain ⟨h1, _⟩ := plT_tok ht Z
    have hpos := List.length_pos_iff.2 ht
    simp only [List.length_append, List.length_cons] at hn
    rw [hP, betw_plT ht]
    obtain ⟨T, hT, hk⟩ := ih (i + 1) n (toks ++ [⟨t.k, t.s, ((b.length - (plT t ++ 32 :: Z).length : Nat) : Int)⟩]) hR (by simp only [List.length_append, List.length_cons, List.length_nil]; omega) (by rw [hZ]; omega)
    rw [hZ] at hT
    refine ⟨⟨t.k, t.s, ((b.length - (plT t ++ 32 :: Z).length : Nat) : Int)⟩ :: T, ?_, by rw [List.map_cons, hk]; rfl⟩
    rw [lexL, if_neg (by simp [ht]), if_neg (by omega), h1]
    simp only
    rw [betw_32, hT]
    simp
theorem right_pieces (hP : ∀ i, ∀ c ∈ P i, c.toNat < 128) : ∀ (A : List Tok) (i : Nat), anyBad A = false → rightV (restT P A i) = true
  | [], _, _ => right_nil
  | t :: A, i, h => by
    rw [anyBad_cons, Bool.or_eq_false_iff, decide_eq_false_iff_not] at h
    rw [restT]
    exact right_app (right_app (right_plT h.1) (right_app (x := [32]) (right_one (by decide)) (right_ascii _ (hP _)))) (right_pieces hP A _ h.2)
theorem lexP_pieces (h1 : ∀ i x, betw false (P i ++ x) = betw false x) (h2 : ∀ i, ∀ c ∈ P i, c.toNat < 128) {A : List Tok} (hb : anyBad A = false) (hA : A.length ≤ 900) (hl : (P 0 ++ restT P A 0).length ≤ 4000) :
    ∃ T, lexP (P 0 ++ restT P A 0) = (T, 0, 0) ∧ T.map kt = A.map kt := by
  have hr := right_iff.1 (right_app (right_ascii _ (h2 0)) (right_pieces h2 A 0 hb))
  obtain ⟨T, hT, hk⟩ := lexL_pieces h1 (P 0 ++ restT P A 0) A 0 ((P 0 ++ restT P A 0).length + 1) [] hb (by simpa using hA) (by omega)
  refine ⟨T, ?_, hk⟩
  unfold lexP
  rw [if_neg (by omega), hr, if_neg (by decide), hT]
  rfl
end

end Go.Proofs.YtadpobnajjocnaaGreatDoor.Eng
