/-
  The statement JsonEncodes, over values. No condition.
-/
import Derived.Test.YtjdppboomglenaaDoorJSpecE
namespace Go.Proofs.YtjdppboomglenaaDoor.Eng
open Go
set_option linter.unusedSimpArgs false
set_option linter.unusedVariables false

attribute [local simp] evC_reg evC_regD evR_cons evR_nil runR_some regK_some evC_ret evC_skip evC_exit Out_seq Out_blk Out_some seqQ_norm seqQ_ret seqQ_exit blkQ_norm blkQ_ret blkQ_exit loopQ_norm loopQ_ret loopQ_exit
attribute [local simp] stepR evOp put upd_apply X.ev initEnv cells_agg cells_int cells_str cells_bool cells_sl cells_ptr cells_pnil cells_fn cells_map vc_length vc_take vc_plain vc_und toVs_plain toPs_plain toVs_und toPs_und takeN evBin isSh intBin strBin callK resOf packR V.plain plainL V.und undL scK kill dstsO dstsL dstsR ite_some ite_pair ite_vbool evUn evLoad evLen V.real finLoop_false quietK_false quietK_same kill_none

theorem dig0_len : ∀ (m u : Nat), u < 10 ^ m → (dig0 u).length ≤ m := by
  intro m
  induction m with
  | zero =>
    intro u hu
    have : u = 0 := by omega
    subst this
    simp [dig0]
  | succ m ih =>
    intro u hu
    by_cases hu0 : u = 0
    · subst hu0; simp [dig0]
    · rw [dig0_step hu0, List.length_append]
      have := ih (u / 10) (by rw [Nat.pow_succ] at hu; omega)
      simp; omega
theorem itoa_len (n : Int) (h0 : -9223372036854775808 ≤ n) (h1 : n ≤ 9223372036854775807) : (Lib.itoa n).length ≤ 21 := by
  by_cases hz : n = 0
  · subst hz
    have : Lib.itoa 0 = [48] := by unfold Lib.itoa; rw [if_neg (by omega), Lib.decDigits]; rfl
    rw [this]; simp
  · have := dig0_len 20 n.natAbs (by omega)
    rw [itoa_dig n hz]
    split
    · simp; omega
    · omega
theorem quoteV_len (b : List UInt8) : (quoteV b).length ≤ 6 * b.length + 2 := by
  have := quoteB_len b (b.length + 1) 0
  simp [quoteV]; omega

mutual
theorem few_ok : ∀ (v : JV), v.ok → ∀ n : Int, 0 ≤ fewV v n → smV v ∧ 1 ≤ n ∧ ((encJ v).length : Int) + 4000 ≤ 8000 * (n - fewV v n)
  | .mk k nn s l f, hok, n, h => by
    obtain ⟨_, hnn, hb, hl, hf, hokl, hokf⟩ := hok
    simp only [fewV] at h ⊢
    split at h
    · omega
    · rename_i hc
      rw [if_neg hc]
      simp only [not_or] at hc
      obtain ⟨g1, g2, g3⟩ := few_okPs f hokf (fewVs l (n - 1)) h 0
      obtain ⟨q1, q2, q3⟩ := few_okVs l hokl (n - 1) g2 0
      refine ⟨⟨by omega, q1, g1⟩, by omega, ?_⟩
      have hi := itoa_len nn hnn.1 hnn.2
      have hq := quoteV_len s
      have hbo : (boolV (decide (nn = 1))).length ≤ 5 := by unfold boolV; split <;> simp
      rw [encJ]
      repeat' split
      all_goals (simp; omega)
theorem few_okVs : ∀ (l : List JV), okVs l → ∀ n : Int, 0 ≤ fewVs l n → ∀ i, smVs l ∧ 0 ≤ n ∧ ((encVs l i).length : Int) ≤ 8000 * (n - fewVs l n)
  | [], _, n, h, i => by simp only [fewVs] at h ⊢; simp [smVs, encVs]; exact h
  | v :: vs, hok, n, h, i => by
    simp only [fewVs] at h ⊢
    split at h
    · rename_i hn
      rw [if_pos hn]
      obtain ⟨g1, g2, g3⟩ := few_okVs vs hok.2 (fewV v n) h (i + 1)
      obtain ⟨q1, q2, q3⟩ := few_ok v hok.1 n g2
      refine ⟨⟨q1, g1⟩, hn, ?_⟩
      have : (if 0 < i then [44] else ([] : List UInt8)).length ≤ 1 := by split <;> simp
      simp only [encVs, List.length_append]
      omega
    · omega
theorem few_okPs : ∀ (l : List (List UInt8 × JV)), okPs l → ∀ n : Int, 0 ≤ fewPs l n → ∀ i, smPs l ∧ 0 ≤ n ∧ ((encPs l i).length : Int) ≤ 8000 * (n - fewPs l n)
  | [], _, n, h, i => by simp only [fewPs] at h ⊢; simp [smPs, encPs]; exact h
  | p :: ps, hok, n, h, i => by
    simp only [fewPs] at h ⊢
    split at h
    · rename_i hn
      split at h
      · omega
      · rename_i hk
        rw [if_pos hn, if_neg hk]
        obtain ⟨g1, g2, g3⟩ := few_okPs ps hok.2.2 (fewV p.2 n) h (i + 1)
        obtain ⟨q1, q2, q3⟩ := few_ok p.2 hok.2.1 n g2
        refine ⟨⟨by omega, q1, g1⟩, hn, ?_⟩
        have : (if 0 < i then [44] else ([] : List UInt8)).length ≤ 1 := by split <;> simp
        have hq := quoteV_len p.1
        simp only [encPs, List.length_append, List.length_cons, List.length_nil]
        omega
    · omega
end

theorem encJ_ne (v : JV) (d : Int) (h : treeV v d = true) : encJ v ≠ [] := by
  obtain ⟨k, nn, b, l, f⟩ := v
  rw [treeV] at h
  split at h
  · cases h
  · have hbo : boolV (decide (nn = 1)) ≠ [] := by unfold boolV; split <;> simp
    have hi := itoa_ne nn
    have hq := quoteV_ne b
    rw [encJ]
    repeat' split
    all_goals (first | assumption | (simp; done) | skip)
    exfalso
    simp only [*, if_false] at h
    cases h

theorem encode_spec (v : JV) (hok : v.ok) (hs : treeV v 12 = true → smV v ∧ (encJ v).length ≤ 100000000000) (s : St) :
    call G 9 [toV v] s = if treeV v 12 = true then some (.tup [.str (encJ v), .int .i64 0], s) else some (.tup [.str [], .int .i64 1], s) := by
  have htr := fun s => treeRight_spec v hok s
  refine (?_ : _ = _)
  by_cases ht : treeV v 12 = true
  · rw [if_pos ht]
    obtain ⟨hsm, hlen⟩ := hs ht
    have henc := enc_spec v hok hsm 12 ht (s.obs ++ [.cells 25 (vc v)]) [] s.bufs none (by simpa using hlen)
    have hstr := string_bst (s.obs ++ [.cells 25 (vc v)]) [] s.bufs (encJ v) (encJ_ne v 12 ht) (by omega)
    simp [bsx] at henc hstr
    have h0 : ({ obs := s.obs ++ [.cells 25 (vc v), .cells 42 [.pnil, .sl .nil []]], bufs := s.bufs } : St) = bst0 (s.obs ++ [.cells 25 (vc v)]) [] s.bufs := by simp [bst0]
    have hbl : (bst0 (s.obs ++ [.cells 25 (vc v)]) [] s.bufs).obs[s.obs.length]? = some (.cells 25 (vc v)) := by simp [bst0]
    refine call_out (F := af9) rfl rfl ?_
    simp [af9, af9b, htr, ht]
    refine Out_cond _ _ _ _ _ _ _ rfl (fun h => by simp at h) (fun _ => ?_)
    simp [h0, hbl, henc, hstr, fin]
    simp [bst]
  · rw [if_neg ht]
    have ht' : treeV v 12 = false := by simpa using ht
    refine call_out (F := af9) rfl rfl ?_
    simp [af9, af9b, htr, ht']
    refine Out_cond _ _ _ _ _ _ _ rfl (fun _ => ?_) (fun h => by simp at h)
    simp [fin]

attribute [local simp] fin

theorem fewT_spec (v : JV) (hok : v.ok) (s : St) : call G 8 [toV v, .int .i64 60] s = some (.bool (decide (0 ≤ fewV v 60)), s) := by
  have h := fun s => few_spec v hok 60 s (by omega) (by omega)
  refine call_out (F := af8) rfl rfl ?_
  simp [af8, af8b, h]

theorem rightT_spec (v : JV) (hok : v.ok) (s : St) : call G 10 [toV v] s = some (.bool (treeV v 12), s) := by
  have h := fun s => ref_spec v hok 12 s (by omega) (by omega)
  simp only [ref_tree] at h
  refine call_out (F := af10) rfl rfl ?_
  simp [af10, af10b, h]

def jm5 : JV := .mk 2 (-5) [] [] []
theorem awake_spec (s : St) : call G 7 [] s = some (.bool true, s) := by
  have hok : jm5.ok := by simp [jm5, JV.ok, okVs, okPs]
  have he : encJ jm5 = [45, 53] := by
    unfold jm5
    rw [encJ, if_neg (by omega), if_neg (by omega), if_pos rfl]
    unfold Lib.itoa
    rw [if_pos (by omega), Lib.decDigits]
    rfl
  have ht : treeV jm5 12 = true := by
    unfold jm5
    rw [treeV, if_neg, if_neg (by omega), if_neg (by omega), if_pos rfl]
    · decide
    · rintro (h | h)
      · omega
      · revert h; decide
  have h := fun s => encode_spec jm5 hok (fun _ => by rw [he]; simp [jm5, smV, smVs, smPs]) s
  simp only [ht, if_true, he] at h
  simp only [toV, jm5, vc, toVs, toPs] at h
  refine call_out (F := af7) rfl rfl ?_
  simp [af7, af7b, fillL, putL]
  simp [h]

theorem encodes_spec (v : JV) (hok : v.ok) (s : St) : call G 3 [toV v] s = some (.bool true, s) := by
  have hf := fun s => fewT_spec v hok s
  have hr := fun s => rightT_spec v hok s
  have ha := awake_spec
  have hfo := fun h => few_ok v hok 60 h
  by_cases hfew : 0 ≤ fewV v 60
  · obtain ⟨hsm, _, hlen⟩ := hfo hfew
    have he := fun s => encode_spec v hok (fun _ => ⟨hsm, by have := few_ok v hok 60 hfew; omega⟩) s
    by_cases ht : treeV v 12 = true
    · have hre := fun s => refEnc_spec v hok hsm 12 ht (by omega) s
      simp only [ht, if_true] at he hr
      refine call_out (F := af3) rfl rfl ?_
      simp [af3, af3b, ha, hf, hfew]
      refine Out_cond _ _ _ _ _ _ _ rfl (fun h => by simp at h) (fun _ => ?_)
      simp [he, hr]
      refine Out_cond _ _ _ _ _ _ _ rfl (fun h => by simp at h) (fun _ => ?_)
      simp [hre]
    · have ht' : treeV v 12 = false := by simpa using ht
      simp only [ht', if_false] at he hr
      refine call_out (F := af3) rfl rfl ?_
      simp [af3, af3b, ha, hf, hfew]
      refine Out_cond _ _ _ _ _ _ _ rfl (fun h => by simp at h) (fun _ => ?_)
      simp [he, hr]
      refine Out_cond _ _ _ _ _ _ _ rfl (fun _ => ?_) (fun h => by simp at h)
      simp
  · refine call_out (F := af3) rfl rfl ?_
    simp [af3, af3b, ha, hf, hfew]
    refine Out_cond _ _ _ _ _ _ _ rfl (fun _ => ?_) (fun h => by simp at h)
    simp [ha]

end Go.Proofs.YtjdppboomglenaaDoor.Eng
