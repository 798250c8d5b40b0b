/-
  JSON, written by the program: encode of a right value. No condition.
-/
import Derived.Test.YtjdppboomglenaaDoorJSpecA
namespace Go.Proofs.YtjdppboomglenaaDoor.Eng
open Go
set_option linter.unusedSimpArgs false
set_option linter.unusedVariables false

attribute [local simp] evC_reg evC_regD evR_cons evR_nil runR_some regK_some evC_ret evC_skip evC_exit Out_seq Out_blk Out_some seqQ_norm seqQ_ret seqQ_exit blkQ_norm blkQ_ret blkQ_exit loopQ_norm loopQ_ret loopQ_exit
attribute [local simp] stepR evOp put upd_apply X.ev initEnv cells_agg cells_int cells_str cells_bool cells_sl cells_ptr cells_pnil cells_fn cells_map vc_length vc_take vc_plain vc_und toVs_plain toPs_plain toVs_und toPs_und takeN evBin isSh intBin strBin callK resOf packR V.plain plainL V.und undL scK kill dstsO dstsL dstsR ite_some ite_pair ite_vbool evUn evLoad evLen V.real finLoop_false quietK_false kill_none

/-! Strings of a size. -/
mutual
def smV : JV → Prop
  | .mk k n s l f => s.length ≤ 500 ∧ smVs l ∧ smPs f
def smVs : List JV → Prop
  | [] => True
  | v :: vs => smV v ∧ smVs vs
def smPs : List (List UInt8 × JV) → Prop
  | [] => True
  | p :: ps => p.1.length ≤ 500 ∧ smV p.2 ∧ smPs ps
end
theorem smVs_mem {l : List JV} (h : smVs l) : ∀ v ∈ l, smV v := by
  induction l with
  | nil => simp
  | cons x l ih => intro v hv; exact (List.mem_cons.1 hv).elim (fun e => e ▸ h.1) (fun hv => ih h.2 v hv)
theorem smPs_mem {l : List (List UInt8 × JV)} (h : smPs l) : ∀ p ∈ l, p.1.length ≤ 500 ∧ smV p.2 := by
  induction l with
  | nil => simp
  | cons x l ih => intro v hv; exact (List.mem_cons.1 hv).elim (fun e => e ▸ ⟨h.1, h.2.1⟩) (fun hv => ih h.2.2 v hv)
theorem treeVs_mem {l : List JV} {d : Int} (h : treeVs l d = true) : ∀ v ∈ l, treeV v d = true := by
  induction l with
  | nil => simp
  | cons x l ih => intro v hv; simp only [treeVs, Bool.and_eq_true] at h; exact (List.mem_cons.1 hv).elim (fun e => e ▸ h.1) (fun hv => ih h.2 v hv)
theorem treePs_mem {l : List (List UInt8 × JV)} {d : Int} (h : treePs l d = true) : ∀ p ∈ l, treeV p.2 d = true := by
  induction l with
  | nil => simp
  | cons x l ih => intro v hv; simp only [treePs, Bool.and_eq_true] at h; exact (List.mem_cons.1 hv).elim (fun e => e ▸ h.1) (fun hv => ih h.2 v hv)
theorem keysV_mem : ∀ {l : List (List UInt8 × JV)} {seen : List (List UInt8)}, keysV seen l = true → ∀ p ∈ l, rightV p.1 = true
  | [], _, _, p, h => by cases h
  | x :: l, seen, hk, p, h => by
    simp only [keysV] at hk
    split at hk
    · cases hk
    · rename_i hx
      rcases List.mem_cons.1 h with rfl | h
      · simp only [not_or] at hx
        simpa using hx.2
      · exact keysV_mem hk p h

theorem itoa_ne (n : Int) : Lib.itoa n ≠ [] := by
  unfold Lib.itoa
  split
  · simp
  · rw [Lib.decDigits]; split <;> simp

theorem enc_spec : ∀ (v : JV), v.ok → smV v → ∀ d : Int, treeV v d = true → EncOk v
  | .mk k nn b l f, hok, hsm, d, ht => by
    intro o tl bufs y hlen
    have hok' := hok
    obtain ⟨_, hnn, hb, hl, hf, hokl, hokf⟩ := hok
    obtain ⟨hsb, hsl, hsf⟩ := hsm
    have h1 : ¬ (d < 1 ∨ unusedV (.mk k nn b l f) = false) := by
      intro h
      rw [treeV, if_pos h] at ht
      cases ht
    rw [treeV, if_neg h1] at ht
    have ihl : treeVs l (d - 1) = true → ∀ x ∈ l, EncOk x := fun h x hx => enc_spec x (okVs_mem hokl x hx) (smVs_mem hsl x hx) (d - 1) (treeVs_mem h x hx)
    have ihf : treePs f (d - 1) = true → ∀ x ∈ f, EncOk x.2 := fun h x hx => enc_spec x.2 (okPs_mem hokf x hx).2 (smPs_mem hsf x hx).2 (d - 1) (treePs_mem h x hx)
    have hbox := bsx_app o tl [.cells 25 [.int .i64 k, .int .i64 nn, .str b, .sl .no (toVs l), .sl .no (toPs f)]] bufs y
    have hlen2 := bsx_len o tl bufs y
    have hobj : ∀ x, (bsx o (tl ++ [.cells 25 [.int .i64 k, .int .i64 nn, .str b, .sl .no (toVs l), .sl .no (toPs f)]]) bufs x).obs[o.length + 1 + tl.length]? = some (.cells 25 [.int .i64 k, .int .i64 nn, .str b, .sl .no (toVs l), .sl .no (toPs f)]) := by
      intro x
      have hx := bsx_app o tl [.cells 25 [.int .i64 k, .int .i64 nn, .str b, .sl .no (toVs l), .sl .no (toPs f)]] bufs x
      rw [← hx, ← bsx_len o tl bufs x]
      simp
    have hw : ∀ t : List UInt8, t ≠ [] → (y.getD []).length + t.length ≤ 140737488355328 → call G 30 [.ptr o.length 0, .str t] (bsx o (tl ++ [.cells 25 [.int .i64 k, .int .i64 nn, .str b, .sl .no (toVs l), .sl .no (toPs f)]]) bufs y) = some (.tup [.int .i64 t.length, .nilI], bst o (tl ++ [.cells 25 [.int .i64 k, .int .i64 nn, .str b, .sl .no (toVs l), .sl .no (toPs f)]]) bufs (y.getD [] ++ t)) :=
      fun t h1 h2 => write_bsx _ _ _ _ t h1 h2
    refine call_out (F := af16) rfl rfl ?_
    simp [af16, af16b, vc]
    simp [hbox, hlen2, hobj]
    refine Out_cond _ _ _ _ _ _ _ rfl (fun h0 => ?_) (fun h0 => ?_)
    · simp at h0
      have he : encJ (.mk k nn b l f) = [110, 117, 108, 108] := by rw [encJ, if_pos h0]
      rw [he] at hlen ⊢
      simp at hlen
      simp
      rw [hw _ (by simp) (by simp; omega)]
      simp [fin_bsx]
    · simp at h0
      rw [if_neg h0] at ht
      simp
      refine Out_cond _ _ _ _ _ _ _ rfl (fun h1 => ?_) (fun h1 => ?_)
      · simp at h1
        have he : encJ (.mk k nn b l f) = boolV (decide (nn = 1)) := by rw [encJ, if_neg h0, if_pos h1]
        have hne : boolV (decide (nn = 1)) ≠ [] := by unfold boolV; split <;> simp
        have hbl : (boolV (decide (nn = 1))).length ≤ 5 := by unfold boolV; split <;> simp
        rw [he] at hlen ⊢
        simp [hobj, fb31_spec]
        rw [hw _ hne (by omega)]
        simp [fin_bsx]
      · simp at h1
        rw [if_neg h1] at ht
        simp
        refine Out_cond _ _ _ _ _ _ _ rfl (fun h2 => ?_) (fun h2 => ?_)
        · simp at h2
          have he : encJ (.mk k nn b l f) = Lib.itoa nn := by rw [encJ, if_neg h0, if_neg h1, if_pos h2]
          rw [he] at hlen ⊢
          simp [hobj, fi_spec nn hnn.1 hnn.2]
          rw [hw _ (itoa_ne nn) (by omega)]
          simp [fin_bsx]
        · simp at h2
          rw [if_neg h2] at ht
          simp
          refine Out_cond _ _ _ _ _ _ _ rfl (fun h3 => ?_) (fun h3 => ?_)
          · simp at h3
            have he : encJ (.mk k nn b l f) = quoteV b := by rw [encJ, if_neg h0, if_neg h1, if_neg h2, if_pos h3]
            rw [he] at hlen ⊢
            rw [if_pos h3] at ht
            have hq := fun s => quote_spec b (by omega) s
            simp only [ht, if_true] at hq
            simp [hobj, hq]
            rw [hw _ (quoteV_ne b) (by omega)]
            simp [fin_bsx]
          · simp at h3
            rw [if_neg h3] at ht
            simp
            refine Out_cond _ _ _ _ _ _ _ rfl (fun h4 => ?_) (fun h4 => ?_)
            · simp at h4
              have he : encJ (.mk k nn b l f) = 91 :: (encVs l 0 ++ [93]) := by rw [encJ, if_neg h0, if_neg h1, if_neg h2, if_neg h3, if_pos h4]
              rw [he] at hlen ⊢
              rw [if_pos h4] at ht
              simp at hlen
              have hb91 := byte_bsx o (tl ++ [.cells 25 [.int .i64 k, .int .i64 nn, .str b, .sl .no (toVs l), .sl .no (toPs f)]]) bufs y 91 (by omega)
              simp at hb91
              simp [hobj, hb91]
              have hobj' : (bst o (tl ++ [.cells 25 [.int .i64 k, .int .i64 nn, .str b, .sl .no (toVs l), .sl .no (toPs f)]]) bufs (y.getD [] ++ [91])).obs[o.length + 1 + tl.length]? = some (.cells 25 [.int .i64 k, .int .i64 nn, .str b, .sl .no (toVs l), .sl .no (toPs f)]) := hobj (some (y.getD [] ++ [91]))
              simp [hobj']
              have hloop := fun env => encLoop0 o tl bufs l hl (ihl ht) l.length 0 env [.cells 25 [.int .i64 k, .int .i64 nn, .str b, .sl .no (toVs l), .sl .no (toPs f)]] (y.getD [] ++ [91]) (by omega) (by omega)
              refine Out.mono (hloop _ ?_ ?_ ?_ ?_ ?_) ?_
              · simp
              · simp
              · simp [toVs_length]
              · simp
              · simp; omega
              rintro e env' s' ⟨rfl, g0, junk', rfl⟩
              have hb93 := byte_bst o (tl ++ junk') bufs (y.getD [] ++ [91] ++ encVs (l.drop 0) 0) 93 (by simp; omega)
              simp at hb93
              simp [g0, hb93, fin_bsx]
            · simp at h4
              rw [if_neg h4] at ht
              simp
              refine Out_cond _ _ _ _ _ _ _ rfl (fun h5 => ?_) (fun h5 => ?_)
              · simp at h5
                have he : encJ (.mk k nn b l f) = 123 :: (encPs f 0 ++ [125]) := by rw [encJ, if_neg h0, if_neg h1, if_neg h2, if_neg h3, if_neg h4, if_pos h5]
                rw [he] at hlen ⊢
                rw [if_pos h5] at ht
                simp only [Bool.and_eq_true] at ht
                simp at hlen
                have hb91 := byte_bsx o (tl ++ [.cells 25 [.int .i64 k, .int .i64 nn, .str b, .sl .no (toVs l), .sl .no (toPs f)]]) bufs y 123 (by omega)
                simp at hb91
                simp [hobj, hb91]
                have hobj' : (bst o (tl ++ [.cells 25 [.int .i64 k, .int .i64 nn, .str b, .sl .no (toVs l), .sl .no (toPs f)]]) bufs (y.getD [] ++ [123])).obs[o.length + 1 + tl.length]? = some (.cells 25 [.int .i64 k, .int .i64 nn, .str b, .sl .no (toVs l), .sl .no (toPs f)]) := hobj (some (y.getD [] ++ [123]))
                simp [hobj']
                have hloop := fun env => encLoop1 o tl bufs f hf (fun p hp => ⟨keysV_mem ht.1 p hp, by have := (smPs_mem hsf p hp).1; omega⟩) (ihf ht.2) f.length 0 env [.cells 25 [.int .i64 k, .int .i64 nn, .str b, .sl .no (toVs l), .sl .no (toPs f)]] (y.getD [] ++ [123]) (by omega) (by omega)
                refine Out.mono (hloop _ ?_ ?_ ?_ ?_ ?_) ?_
                · simp
                · simp
                · simp [toPs_length]
                · simp
                · simp; omega
                rintro e env' s' ⟨rfl, g0, junk', rfl⟩
                have hb93 := byte_bst o (tl ++ junk') bufs (y.getD [] ++ [123] ++ encPs (f.drop 0) 0) 125 (by simp; omega)
                simp at hb93
                simp [g0, hb93, fin_bsx]
              · simp at h5
                rw [if_neg h5] at ht
                cases ht
termination_by v => SizeOf.sizeOf v
decreasing_by
  · have := List.sizeOf_lt_of_mem hx
    simp; omega
  · have := List.sizeOf_lt_of_mem hx
    obtain ⟨a, b⟩ := x
    simp at this ⊢; omega

end Go.Proofs.YtjdppboomglenaaDoor.Eng
