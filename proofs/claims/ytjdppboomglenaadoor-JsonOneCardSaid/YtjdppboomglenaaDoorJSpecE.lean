/-
  The reference's JSON, and json.Encode. No condition.
-/
import Derived.Test.YtjdppboomglenaaDoorJSpecD
namespace Go.Proofs.YtjdppboomglenaaDoor.Eng
open Go
set_option linter.unusedSimpArgs false
set_option linter.unusedVariables false

attribute [local simp] evC_reg evC_regD evR_cons evR_nil runR_some regK_some evC_ret evC_skip evC_exit Out_seq Out_blk Out_some seqQ_norm seqQ_ret seqQ_exit blkQ_norm blkQ_ret blkQ_exit loopQ_norm loopQ_ret loopQ_exit
attribute [local simp] stepR evOp put upd_apply X.ev initEnv cells_agg cells_int cells_str cells_bool cells_sl cells_ptr cells_pnil cells_fn cells_map vc_length vc_take vc_plain vc_und toVs_plain toPs_plain toVs_und toPs_und takeN evBin isSh intBin strBin callK resOf packR fin V.plain plainL V.und undL scK kill dstsO dstsL dstsR ite_some ite_pair ite_vbool evUn evLoad evLen V.real finLoop_false quietK_false quietK_same kill_none

/-- What the reference's Encode does for a value. -/
def EncR (x : JV) : Prop := (encJ x).length ≤ 100000000000 → ∀ s : St, call G 11 [toV x] s = some (.str (encJ x), s)

theorem refEnc0 (k nn : Int) (b : List UInt8) (L : List JV) (f : List (List UInt8 × JV)) (id : Nat) (hL : L.length ≤ 9223372036854775807) (s : St) (hob : s.obs[id]? = some (.cells 25 [.int .i64 k, .int .i64 nn, .str b, .sl .no (toVs L), .sl .no (toPs f)])) (ih : ∀ x ∈ L, EncR x) :
    ∀ (m i : Nat) (env : Env) (acc : List UInt8), L.length - i = m → i ≤ L.length → env 1 = .ptr id 0 → env 3 = .str acc → env 4 = .int .i64 i → acc.length + (encVs (L.drop i) i).length ≤ 100000000000 →
      Out (evC G (.loop false af11l0) env s) (fun e env' s' => e = .exit 1 ∧ s' = s ∧ env' 3 = .str (acc ++ encVs (L.drop i) i)) := by
  intro m
  induction m with
  | zero =>
    intro i env acc hm hi h1 h3 h4 hb
    have : i = L.length := by omega
    subst this
    refine Out_loop G false _ _ af11l0.eq_1 _ _ _ ?_
    simp [h1, h4, hob, toVs_length]
    refine Out_cond _ _ _ _ _ _ _ rfl (fun h => by simp at h) (fun _ => ?_)
    simp [encVs, h3]
  | succ m ihm =>
    intro i env acc hm hi h1 h3 h4 hb
    have hlt : i < L.length := by omega
    have hdr := List.drop_eq_getElem_cons hlt
    have hwi : IntKind.i64.wrap ((i : Int) + 1) = ((i + 1 : Nat) : Int) := by rw [wrap_in (by omega) (by omega)]; omega
    have hx := ih L[i] (List.getElem_mem hlt)
    rw [hdr] at hb ⊢
    simp only [encVs] at hb ⊢
    refine Out_loop G false _ _ af11l0.eq_1 _ _ _ ?_
    simp [h1, h4, hob, toVs_length]
    refine Out_cond _ _ _ _ _ _ _ rfl (fun _ => ?_) (fun h => by simp at h; omega)
    simp [h4]
    refine Out_cond _ _ _ _ _ _ _ rfl (fun hi0 => ?_) (fun hi0 => ?_)
    · have hi0' : 0 < i := by simpa using hi0
      simp only [if_pos hi0'] at hb ⊢
      simp at hb
      have hc := hx (by omega)
      have l1 : (acc.length : Int) + 1 ≤ 9223372036854775807 := by omega
      have l2 : (acc.length : Int) + 1 + (encJ L[i]).length ≤ 9223372036854775807 := by omega
      simp [h1, h3, h4, hob, imax9, l1, toVs_get, List.getElem?_eq_getElem hlt, hc, hwi]
      have l3 : (acc.length : Int) + (↑(encJ L[i]).length + 1) ≤ 9223372036854775807 := by omega
      have l4 : (acc.length : Int) + 1 + ↑(encJ L[i]).length ≤ 9223372036854775807 := by omega
      simp [l2, l3, l4, h4, hwi]
      refine Out.mono (ihm (i + 1) _ (acc ++ 44 :: encJ L[i]) ?_ ?_ ?_ ?_ ?_ ?_) ?_
      · omega
      · omega
      · simp [h1]
      · simp
      · simp
      · simp; omega
      rintro e env' s' ⟨rfl, rfl, h⟩
      exact ⟨rfl, rfl, by simp [h]⟩
    · have hi0' : ¬ 0 < i := by simpa using hi0
      simp only [if_neg hi0'] at hb ⊢
      simp at hb
      have hc := hx (by omega)
      have l2 : (acc.length : Int) + (encJ L[i]).length ≤ 9223372036854775807 := by omega
      simp [h1, h3, h4, hob, imax9, toVs_get, List.getElem?_eq_getElem hlt, hc, hwi, l2]
      refine Out.mono (ihm (i + 1) _ (acc ++ encJ L[i]) ?_ ?_ ?_ ?_ ?_ ?_) ?_
      · omega
      · omega
      · simp [h1]
      · simp
      · simp
      · simp; omega
      rintro e env' s' ⟨rfl, rfl, h⟩
      exact ⟨rfl, rfl, by simp [h]⟩

theorem refEnc1 (k nn : Int) (b : List UInt8) (l : List JV) (L : List (List UInt8 × JV)) (id : Nat) (hL : L.length ≤ 9223372036854775807) (s : St) (hob : s.obs[id]? = some (.cells 25 [.int .i64 k, .int .i64 nn, .str b, .sl .no (toVs l), .sl .no (toPs L)]))
    (hr : ∀ p ∈ L, rightV p.1 = true ∧ p.1.length ≤ 1000000000) (ih : ∀ x ∈ L, EncR x.2) :
    ∀ (m i : Nat) (env : Env) (acc : List UInt8), L.length - i = m → i ≤ L.length → env 1 = .ptr id 0 → env 5 = .str acc → env 6 = .int .i64 i → acc.length + (encPs (L.drop i) i).length ≤ 100000000000 →
      Out (evC G (.loop false af11l1) env s) (fun e env' s' => e = .exit 3 ∧ s' = s ∧ env' 5 = .str (acc ++ encPs (L.drop i) i)) := by
  intro m
  induction m with
  | zero =>
    intro i env acc hm hi h1 h3 h4 hb
    have : i = L.length := by omega
    subst this
    refine Out_loop G false _ _ af11l1.eq_1 _ _ _ ?_
    simp [h1, h4, hob, toPs_length]
    refine Out_cond _ _ _ _ _ _ _ rfl (fun h => by simp at h) (fun _ => ?_)
    simp [encPs, h3]
  | succ m ihm =>
    intro i env acc hm hi h1 h3 h4 hb
    have hlt : i < L.length := by omega
    have hdr := List.drop_eq_getElem_cons hlt
    have hwi : IntKind.i64.wrap ((i : Int) + 1) = ((i + 1 : Nat) : Int) := by rw [wrap_in (by omega) (by omega)]; omega
    have hx := ih L[i] (List.getElem_mem hlt)
    obtain ⟨hr1, hr2⟩ := hr L[i] (List.getElem_mem hlt)
    rw [hdr] at hb ⊢
    simp only [encPs] at hb ⊢
    generalize hp : L[i] = p at *
    obtain ⟨key, x⟩ := p
    simp only at hb hx hr1 hr2 ⊢
    have hq := fun s => refQuote_spec key hr2 s
    have hqr := quote_ref key hr1
    rw [hqr] at hb ⊢
    refine Out_loop G false _ _ af11l1.eq_1 _ _ _ ?_
    simp [h1, h4, hob, toPs_length]
    refine Out_cond _ _ _ _ _ _ _ rfl (fun _ => ?_) (fun h => by simp at h; omega)
    simp [h4]
    refine Out_cond _ _ _ _ _ _ _ rfl (fun hi0 => ?_) (fun hi0 => ?_)
    · have hi0' : 0 < i := by simpa using hi0
      simp only [if_pos hi0'] at hb ⊢
      simp at hb
      have hc := hx (by omega)
      have l1 : (acc.length : Int) + 1 ≤ 9223372036854775807 := by omega
      have l2 : ((quoteR key).length : Int) + 1 ≤ 9223372036854775807 := by omega
      have l3 : ((quoteR key).length : Int) + 1 + (encJ x).length ≤ 9223372036854775807 := by omega
      have l4 : ((quoteR key).length : Int) + ((encJ x).length + 1) ≤ 9223372036854775807 := by omega
      have l5 : (acc.length : Int) + 1 + ((quoteR key).length + (encJ x).length + 1) ≤ 9223372036854775807 := by omega
      have l6 : (acc.length : Int) + 1 + ((quoteR key).length + ((encJ x).length + 1)) ≤ 9223372036854775807 := by omega
      have l7 : (acc.length : Int) + 1 + ((quoteR key).length + 1 + (encJ x).length) ≤ 9223372036854775807 := by omega
      simp [h1, h3, h4, hob, imax9, l1, l2, l3, l4, l5, l6, l7, toPs_get, List.getElem?_eq_getElem hlt, hp, hc, hq, hwi]
      refine Out.mono (ihm (i + 1) _ (acc ++ 44 :: (quoteR key ++ 58 :: encJ x)) ?_ ?_ ?_ ?_ ?_ ?_) ?_
      · omega
      · omega
      · simp [h1]
      · simp
      · simp
      · simp; omega
      rintro e env' s' ⟨rfl, rfl, h⟩
      exact ⟨rfl, rfl, by simp [h]⟩
    · have hi0' : ¬ 0 < i := by simpa using hi0
      simp only [if_neg hi0'] at hb ⊢
      simp at hb
      have hc := hx (by omega)
      have l2 : ((quoteR key).length : Int) + 1 ≤ 9223372036854775807 := by omega
      have l3 : ((quoteR key).length : Int) + 1 + (encJ x).length ≤ 9223372036854775807 := by omega
      have l4 : ((quoteR key).length : Int) + ((encJ x).length + 1) ≤ 9223372036854775807 := by omega
      have l5 : (acc.length : Int) + ((quoteR key).length + (encJ x).length + 1) ≤ 9223372036854775807 := by omega
      have l6 : (acc.length : Int) + ((quoteR key).length + ((encJ x).length + 1)) ≤ 9223372036854775807 := by omega
      have l7 : (acc.length : Int) + ((quoteR key).length + 1 + (encJ x).length) ≤ 9223372036854775807 := by omega
      simp [h1, h3, h4, hob, imax9, l2, l3, l4, l5, l6, l7, toPs_get, List.getElem?_eq_getElem hlt, hp, hc, hq, hwi]
      refine Out.mono (ihm (i + 1) _ (acc ++ (quoteR key ++ 58 :: encJ x)) ?_ ?_ ?_ ?_ ?_ ?_) ?_
      · omega
      · omega
      · simp [h1]
      · simp
      · simp
      · simp; omega
      rintro e env' s' ⟨rfl, rfl, h⟩
      exact ⟨rfl, rfl, by simp [h]⟩

theorem refEnc_spec : ∀ (v : JV), v.ok → smV v → ∀ d : Int, treeV v d = true → EncR v
  | .mk k nn b l f, hok, hsm, d, ht => by
    intro hlen s
    obtain ⟨_, hnn, hb, hl, hf, hokl, hokf⟩ := hok
    obtain ⟨hsb, hsl, hsf⟩ := hsm
    have h1 : ¬ (d < 1 ∨ unusedV (.mk k nn b l f) = false) := by
      intro h
      rw [treeV, if_pos h] at ht
      cases ht
    rw [treeV, if_neg h1] at ht
    have ihl : treeVs l (d - 1) = true → ∀ x ∈ l, EncR x := fun h x hx => refEnc_spec x (okVs_mem hokl x hx) (smVs_mem hsl x hx) (d - 1) (treeVs_mem h x hx)
    have ihf : treePs f (d - 1) = true → ∀ x ∈ f, EncR x.2 := fun h x hx => refEnc_spec x.2 (okPs_mem hokf x hx).2 (smPs_mem hsf x hx).2 (d - 1) (treePs_mem h x hx)
    have hobj : (s.obs ++ [AObj.cells 25 [.int .i64 k, .int .i64 nn, .str b, .sl .no (toVs l), .sl .no (toPs f)]])[s.obs.length]? = some (.cells 25 [.int .i64 k, .int .i64 nn, .str b, .sl .no (toVs l), .sl .no (toPs f)]) := by simp
    refine call_out (F := af11) rfl rfl ?_
    simp [af11, af11b, vc]
    refine Out_cond _ _ _ _ _ _ _ rfl (fun h1 => ?_) (fun h1 => ?_)
    · simp at h1
      have h0 : ¬ k = 0 := by omega
      have he : encJ (.mk k nn b l f) = boolV (decide (nn = 1)) := by rw [encJ, if_neg h0, if_pos h1]
      rw [he]
      simp
      refine Out_cond _ _ _ _ _ _ _ rfl (fun h => ?_) (fun h => ?_)
      · simp at h
        simp [h, boolV]
      · simp at h
        simp [h, boolV]
    · simp at h1
      rw [if_neg h1] at ht
      simp
      refine Out_cond _ _ _ _ _ _ _ rfl (fun h2 => ?_) (fun h2 => ?_)
      · simp at h2
        have h0 : ¬ k = 0 := by omega
        have he : encJ (.mk k nn b l f) = Lib.itoa nn := by rw [encJ, if_neg h0, if_neg h1, if_pos h2]
        rw [he]
        simp [number_spec nn hnn.1 hnn.2]
      · simp at h2
        rw [if_neg h2] at ht
        simp
        refine Out_cond _ _ _ _ _ _ _ rfl (fun h3 => ?_) (fun h3 => ?_)
        · simp at h3
          have h0 : ¬ k = 0 := by omega
          have he : encJ (.mk k nn b l f) = quoteV b := by rw [encJ, if_neg h0, if_neg h1, if_neg h2, if_pos h3]
          rw [if_neg h0, if_pos h3] at ht
          rw [he, quote_ref b ht]
          simp [refQuote_spec b (by omega)]
        · simp at h3
          rw [if_neg h3] at ht
          simp
          refine Out_cond _ _ _ _ _ _ _ rfl (fun h4 => ?_) (fun h4 => ?_)
          · simp at h4
            have h0 : ¬ k = 0 := by omega
            have he : encJ (.mk k nn b l f) = 91 :: (encVs l 0 ++ [93]) := by rw [encJ, if_neg h0, if_neg h1, if_neg h2, if_neg h3, if_pos h4]
            rw [he] at hlen ⊢
            simp at hlen
            rw [if_neg h0, if_pos h4] at ht
            simp
            refine Out.mono (refEnc0 k nn b l f s.obs.length hl _ hobj (ihl ht) l.length 0 _ [] (by omega) (by omega) ?_ ?_ ?_ ?_) ?_
            · simp
            · simp
            · simp
            · simp; omega
            rintro e env' s' ⟨rfl, rfl, h⟩
            have l1 : ((encVs l 0).length : Int) + 1 ≤ 9223372036854775807 := by omega
            have l2 : ((encVs l 0).length : Int) + 1 + 1 ≤ 9223372036854775807 := by omega
            have l3 : 1 + ((encVs l 0).length : Int) ≤ 9223372036854775807 := by omega
            simp [h, imax9, l1, l2, l3]
          · simp at h4
            rw [if_neg h4] at ht
            simp
            refine Out_cond _ _ _ _ _ _ _ rfl (fun h5 => ?_) (fun h5 => ?_)
            · simp at h5
              have h0 : ¬ k = 0 := by omega
              have he : encJ (.mk k nn b l f) = 123 :: (encPs f 0 ++ [125]) := by rw [encJ, if_neg h0, if_neg h1, if_neg h2, if_neg h3, if_neg h4, if_pos h5]
              rw [he] at hlen ⊢
              simp at hlen
              rw [if_neg h0, if_pos h5] at ht
              simp only [Bool.and_eq_true] at ht
              simp
              refine Out.mono (refEnc1 k nn b l f s.obs.length hf _ hobj (fun p hp => ⟨keysV_mem ht.1 p hp, by have := (smPs_mem hsf p hp).1; omega⟩) (ihf ht.2) f.length 0 _ [] (by omega) (by omega) ?_ ?_ ?_ ?_) ?_
              · simp
              · simp
              · simp
              · simp; omega
              rintro e env' s' ⟨rfl, rfl, h⟩
              have l1 : ((encPs f 0).length : Int) + 1 ≤ 9223372036854775807 := by omega
              have l2 : ((encPs f 0).length : Int) + 1 + 1 ≤ 9223372036854775807 := by omega
              have l3 : 1 + ((encPs f 0).length : Int) ≤ 9223372036854775807 := by omega
              simp [h, imax9, l1, l2, l3]
            · simp at h5
              rw [if_neg h5] at ht
              have h0 : k = 0 := by
                split at ht
                · assumption
                · cases ht
              have he : encJ (.mk k nn b l f) = [110, 117, 108, 108] := by rw [encJ, if_pos h0]
              rw [he]
              simp
termination_by v => SizeOf.sizeOf v
decreasing_by
  · have := List.sizeOf_lt_of_mem hx
    simp; omega
  · have := List.sizeOf_lt_of_mem hx
    obtain ⟨a, b⟩ := x
    simp at this ⊢; omega

end Go.Proofs.YtjdppboomglenaaDoor.Eng
