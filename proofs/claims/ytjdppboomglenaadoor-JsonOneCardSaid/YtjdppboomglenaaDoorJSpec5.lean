/-
  Values that are right, by the reference; that it is the program's. No condition.
-/
import Derived.Test.YtjdppboomglenaaDoorJSpec4
namespace Go.Proofs.YtjdppboomglenaaDoor.Eng
open Go
set_option linter.unusedSimpArgs false
set_option linter.unusedVariables false

attribute [local simp] evC_reg evC_regD evR_cons evR_nil runR_some regK_some evC_ret evC_skip evC_exit Out_seq Out_blk Out_some seqQ_norm seqQ_ret seqQ_exit blkQ_norm blkQ_ret blkQ_exit loopQ_norm loopQ_ret loopQ_exit
attribute [local simp] stepR evOp put upd_apply X.ev initEnv cells_agg cells_int cells_str cells_bool cells_sl cells_ptr cells_pnil cells_fn cells_map vc_length vc_take vc_plain vc_und toVs_plain toPs_plain toVs_und toPs_und takeN evBin isSh intBin strBin callK resOf packR fin V.plain plainL V.und undL scK kill dstsO dstsL dstsR ite_some ite_pair ite_vbool evUn evLoad evLen V.real finLoop_false quietK_false kill_none

mutual
def refV : JV → Int → Bool
  | .mk k n s l f, d =>
    if d < 1 ∨ k < 0 ∨ 5 < k then false
    else if (k ≠ 1 ∧ k ≠ 2 ∧ n ≠ 0) ∨ (k ≠ 3 ∧ s ≠ []) ∨ (k ≠ 4 ∧ l ≠ []) ∨ (k ≠ 5 ∧ f ≠ []) then false
    else if (k = 1 ∧ n ≠ 0 ∧ n ≠ 1) ∨ 9007199254740991 < n ∨ n < -9007199254740991 ∨ rightV s = false then false
    else refVs l (d - 1) && refPs [] f (d - 1)
def refVs : List JV → Int → Bool
  | [], _ => true
  | v :: vs, d => refV v d && refVs vs d
def refPs : List (List UInt8) → List (List UInt8 × JV) → Int → Bool
  | _, [], _ => true
  | seen, p :: ps, d => rightV p.1 && refV p.2 d && !decide (p.1 ∈ seen) && refPs (seen ++ [p.1]) ps d
end

theorem refLoop0 (k nn : Int) (b : List UInt8) (L : List JV) (f : List (List UInt8 × JV)) (id : Nat) (hL : L.length ≤ 9223372036854775807) (d : Int) (hd : -100 ≤ d ∧ d ≤ 1000)
    (ih : ∀ x ∈ L, ∀ (s : St), call G 18 [toV x, .int .i64 (d - 1)] s = some (.bool (refV x (d - 1)), s)) :
    ∀ (m i : Nat) (env : Env) (s : St), L.length - i = m → i ≤ L.length → env 2 = .ptr id 0 → env 1 = .int .i64 d → env 5 = .int .i64 i →
      s.obs[id]? = some (.cells 25 [.int .i64 k, .int .i64 nn, .str b, .sl .no (toVs L), .sl .no (toPs f)]) →
      Out (evC G (.loop false af18l0) env s) (fun e env' s' => s' = s ∧ ((refVs (L.drop i) (d - 1) = true ∧ e = .exit 0 ∧ env' 1 = .int .i64 d ∧ env' 2 = .ptr id 0) ∨ (refVs (L.drop i) (d - 1) = false ∧ e = .ret ∧ env' 4 = .bool false))) := by
  intro m
  induction m with
  | zero =>
    intro i env s hm hi h2 h1 h5 hs
    have : i = L.length := by omega
    subst this
    refine Out_loop G false _ _ af18l0.eq_1 _ _ _ ?_
    simp [h2, h1, h5, hs, toVs_length]
    refine Out_cond _ _ _ _ _ _ _ rfl (fun h => by simp at h) (fun _ => ?_)
    simp [h1, h2, refVs]
  | succ m ihm =>
    intro i env s hm hi h2 h1 h5 hs
    have hlt : i < L.length := by omega
    have hdr := List.drop_eq_getElem_cons hlt
    have hw : IntKind.i64.wrap (d - 1) = d - 1 := wrap_in (by omega) (by omega)
    have hwi : IntKind.i64.wrap ((i : Int) + 1) = ((i + 1 : Nat) : Int) := by rw [wrap_in (by omega) (by omega)]; omega
    refine Out_loop G false _ _ af18l0.eq_1 _ _ _ ?_
    simp [h2, h1, h5, hs, toVs_length]
    refine Out_cond _ _ _ _ _ _ _ rfl (fun _ => ?_) (fun h => by simp at h; omega)
    simp [h2, h1, h5, hs, toVs_get, List.getElem?_eq_getElem hlt, hw, ih L[i] (List.getElem_mem hlt) s]
    refine Out_cond _ _ _ _ _ _ _ rfl (fun hr => ?_) (fun hr => ?_)
    · have hr' : refV L[i] (d - 1) = false := by simpa using hr
      rw [hdr, refVs, hr']
      simp
    · have hr' : refV L[i] (d - 1) = true := by simpa using hr
      rw [hdr, refVs, hr']
      simp [h5, hwi]
      exact ihm (i + 1) _ s (by omega) (by omega) (by simp [h2]) (by simp [h1]) (by simp) hs

/-- Does a key stand ahead? -/
theorem refLoop1 (k nn : Int) (b : List UInt8) (l : List JV) (L : List (List UInt8 × JV)) (id : Nat) (hL : L.length ≤ 9223372036854775807) (i : Nat) (hi : i < L.length) (d : Int) :
    ∀ (m j : Nat) (env : Env) (s : St), i - j = m → j ≤ i → env 2 = .ptr id 0 → env 1 = .int .i64 d → env 6 = .int .i64 i → env 7 = .int .i64 j →
      s.obs[id]? = some (.cells 25 [.int .i64 k, .int .i64 nn, .str b, .sl .no (toVs l), .sl .no (toPs L)]) →
      Out (evC G (.loop false af18l1) env s) (fun e env' s' => s' = s ∧ (((∀ q, j ≤ q → q < i → (L.map (·.1))[q]? ≠ some L[i].1) ∧ e = .exit 4 ∧ env' 1 = .int .i64 d ∧ env' 2 = .ptr id 0 ∧ env' 6 = .int .i64 i) ∨
        ((∃ q, j ≤ q ∧ q < i ∧ (L.map (·.1))[q]? = some L[i].1) ∧ e = .ret ∧ env' 4 = .bool false))) := by
  intro m
  induction m with
  | zero =>
    intro j env s hm hj h2 h1 h6 h7 hs
    have : j = i := by omega
    subst this
    refine Out_loop G false _ _ af18l1.eq_1 _ _ _ ?_
    simp [h6, h7]
    refine Out_cond _ _ _ _ _ _ _ rfl (fun h => by simp at h) (fun _ => ?_)
    simp [h1, h2, h6]
    intro q a b
    omega
  | succ m ihm =>
    intro j env s hm hj h2 h1 h6 h7 hs
    have hlt : j < i := by omega
    have hjL : j < L.length := by omega
    have hwi : IntKind.i64.wrap ((j : Int) + 1) = ((j + 1 : Nat) : Int) := by rw [wrap_in (by omega) (by omega)]; omega
    refine Out_loop G false _ _ af18l1.eq_1 _ _ _ ?_
    simp [h6, h7]
    refine Out_cond _ _ _ _ _ _ _ rfl (fun _ => ?_) (fun h => by simp at h; omega)
    simp [h2, h1, h6, h7, hs, toPs_get, List.getElem?_eq_getElem hjL, List.getElem?_eq_getElem hi]
    refine Out_cond _ _ _ _ _ _ _ rfl (fun hr => ?_) (fun hr => ?_)
    · have hr' : L[j].1 = L[i].1 := by simpa using hr
      simp
      exact ⟨j, by omega, hlt, L[j].2, by rw [List.getElem?_eq_getElem hjL, ← hr']⟩
    · have hr' : ¬ L[j].1 = L[i].1 := by simpa using hr
      simp [h7, hwi]
      refine (ihm (j + 1) _ s (by omega) (by omega) (by simp [h2]) (by simp [h1]) (by simp [h6]) (by simp) hs).mono ?_
      rintro e env' s' ⟨rfl, ⟨g1, g2⟩ | ⟨⟨q, g1, g2, g3⟩, g4⟩⟩
      · refine ⟨rfl, .inl ⟨?_, g2⟩⟩
        intro q hq1 hq2
        by_cases e : q = j
        · intro x hx
          rw [e, List.getElem?_eq_getElem hjL] at hx
          have := Option.some.inj hx
          exact hr' (by rw [this])
        · intro x hx
          exact g1 q (by omega) hq2 (by simp [hx])
      · exact ⟨rfl, .inr ⟨⟨q, by omega, g2, by simpa using g3⟩, g4⟩⟩

/-- The keys ahead. -/
def seenOf (L : List (List UInt8 × JV)) (i : Nat) : List (List UInt8) := (L.take i).map (·.1)

theorem refLoop2 (k nn : Int) (b : List UInt8) (l : List JV) (L : List (List UInt8 × JV)) (id : Nat) (hL : L.length ≤ 9223372036854775807) (hk : ∀ p ∈ L, p.1.length ≤ 9223372036854775807) (d : Int) (hd : -100 ≤ d ∧ d ≤ 1000)
    (ih : ∀ x ∈ L, ∀ (s : St), call G 18 [toV x.2, .int .i64 (d - 1)] s = some (.bool (refV x.2 (d - 1)), s)) :
    ∀ (m i : Nat) (env : Env) (s : St), L.length - i = m → i ≤ L.length → env 2 = .ptr id 0 → env 1 = .int .i64 d → env 6 = .int .i64 i →
      s.obs[id]? = some (.cells 25 [.int .i64 k, .int .i64 nn, .str b, .sl .no (toVs l), .sl .no (toPs L)]) →
      Out (evC G (.loop false af18l2) env s) (fun e env' s' => s' = s ∧ ((refPs (seenOf L i) (L.drop i) (d - 1) = true ∧ e = .exit 2) ∨ (refPs (seenOf L i) (L.drop i) (d - 1) = false ∧ e = .ret ∧ env' 4 = .bool false))) := by
  intro m
  induction m with
  | zero =>
    intro i env s hm hi h2 h1 h6 hs
    have : i = L.length := by omega
    subst this
    refine Out_loop G false _ _ af18l2.eq_1 _ _ _ ?_
    simp [h2, h1, h6, hs, toPs_length]
    refine Out_cond _ _ _ _ _ _ _ rfl (fun h => by simp at h) (fun _ => ?_)
    simp [refPs]
  | succ m ihm =>
    intro i env s hm hi h2 h1 h6 hs
    have hlt : i < L.length := by omega
    have hdr := List.drop_eq_getElem_cons hlt
    have hw : IntKind.i64.wrap (d - 1) = d - 1 := wrap_in (by omega) (by omega)
    have hwi : IntKind.i64.wrap ((i : Int) + 1) = ((i + 1 : Nat) : Int) := by rw [wrap_in (by omega) (by omega)]; omega
    have hkey := hk L[i] (List.getElem_mem hlt)
    have e1 : L.length - (i + 1) = m := by omega
    have e2 : i + 1 ≤ L.length := by omega
    refine Out_loop G false _ _ af18l2.eq_1 _ _ _ ?_
    simp [h2, h1, h6, hs, toPs_length]
    refine Out_cond _ _ _ _ _ _ _ rfl (fun _ => ?_) (fun h => by simp at h; omega)
    simp [h2, h1, h6, hs, toPs_get, List.getElem?_eq_getElem hlt, hw, ih L[i] (List.getElem_mem hlt) s, refRight_spec L[i].1 hkey]
    refine Out_cond _ _ _ _ _ _ _ rfl (fun hr => ?_) (fun hr => ?_)
    · have hr' : (rightV L[i].1 && refV L[i].2 (d - 1)) = false := by
        simp at hr
        rcases hr with h | h <;> simp [h]
      rw [hdr, refPs, hr']
      simp
    · have hr' : (rightV L[i].1 && refV L[i].2 (d - 1)) = true := by
        simp at hr
        simp [hr]
      simp
      refine (refLoop1 k nn b l L id hL i hlt d i 0 _ s (by omega) (by omega) (by simp [h2]) (by simp [h1]) (by simp [h6]) (by simp) hs).mono ?_
      have hmem : L[i].1 ∈ seenOf L i ↔ ∃ q, 0 ≤ q ∧ q < i ∧ (L.map (·.1))[q]? = some L[i].1 := by
        unfold seenOf
        rw [List.mem_iff_getElem?]
        constructor
        · rintro ⟨q, hq⟩
          rw [List.map_take, List.getElem?_take] at hq
          split at hq
          · rename_i hqi
            exact ⟨q, Nat.zero_le _, hqi, hq⟩
          · cases hq
        · rintro ⟨q, _, hqi, hq⟩
          exact ⟨q, by rw [List.map_take, List.getElem?_take, if_pos hqi]; exact hq⟩
      rintro e env' s' ⟨rfl, ⟨g1, rfl, g3, g4, g5⟩ | ⟨g1, rfl, g3⟩⟩
      · have hn : L[i].1 ∉ seenOf L i := fun h => by
          obtain ⟨q, q1, q2, q3⟩ := hmem.1 h
          exact g1 q q1 q2 q3
        have hstep : refPs (seenOf L i) (L.drop i) (d - 1) = refPs (seenOf L (i + 1)) (L.drop (i + 1)) (d - 1) := by
          rw [hdr, refPs, hr']
          have : seenOf L (i + 1) = seenOf L i ++ [L[i].1] := by
            unfold seenOf
            rw [List.take_add_one, List.getElem?_eq_getElem hlt, List.map_append]
            rfl
          rw [this]
          simp only [hn, decide_false, Bool.not_false, Bool.and_true, Bool.true_and]
        rw [hstep]
        simp [g5, hwi]
        exact ihm (i + 1) _ s' e1 e2 (by simp [g4]) (by simp [g3]) (by simp) hs
      · have hn : L[i].1 ∈ seenOf L i := hmem.2 g1
        have hf : refPs (seenOf L i) (L.drop i) (d - 1) = false := by
          rw [hdr, refPs]
          simp only [hn, decide_true, Bool.not_true, Bool.and_false, Bool.false_and]
        rw [hf]
        simp [g3]

theorem ref_spec : ∀ (v : JV), v.ok → ∀ (d : Int) (s : St), -100 ≤ d → d ≤ 1000 → call G 18 [toV v, .int .i64 d] s = some (.bool (refV v d), s)
  | .mk k nn b l f, hok, d, s, hd0, hd1 => by
    obtain ⟨_, _, hb, hl, hf, hokl, hokf⟩ := hok
    have ihl : ∀ x ∈ l, ∀ (s : St), 1 ≤ d → call G 18 [toV x, .int .i64 (d - 1)] s = some (.bool (refV x (d - 1)), s) := fun x hx s h1 => ref_spec x (okVs_mem hokl x hx) (d - 1) s (by omega) (by omega)
    have ihf : ∀ x ∈ f, ∀ (s : St), 1 ≤ d → call G 18 [toV x.2, .int .i64 (d - 1)] s = some (.bool (refV x.2 (d - 1)), s) := fun x hx s h1 => ref_spec x.2 (okPs_mem hokf x hx).2 (d - 1) s (by omega) (by omega)
    have hll : (0 < (l.length : Int)) ↔ l ≠ [] := by cases l <;> simp
    have hfl : (0 < (f.length : Int)) ↔ f ≠ [] := by cases f <;> simp
    refine call_out (F := af18) rfl rfl ?_
    simp [af18, af18b, vc]
    refine Out_cond _ _ _ _ _ _ _ rfl (fun h => ?_) (fun h => ?_)
    · have h' : d < 1 ∨ k < 0 ∨ 5 < k := by
        simp at h
        omega
      have ht : refV (.mk k nn b l f) d = false := by rw [refV, if_pos h']
      simp [ht]
    · have h' : ¬ (d < 1 ∨ k < 0 ∨ 5 < k) := by
        simp at h
        omega
      have hd : 1 ≤ d := by omega
      simp [toVs_length, toPs_length]
      refine Out_cond _ _ _ _ _ _ _ rfl (fun h2 => ?_) (fun h2 => ?_)
      · have h2' : (k ≠ 1 ∧ k ≠ 2 ∧ nn ≠ 0) ∨ (k ≠ 3 ∧ b ≠ []) ∨ (k ≠ 4 ∧ l ≠ []) ∨ (k ≠ 5 ∧ f ≠ []) := by
          have := List.length_pos_iff (l := f)
          simp at h2
          grind
        have ht : refV (.mk k nn b l f) d = false := by rw [refV, if_neg h', if_pos h2']
        simp [ht]
      · have h2' : ¬ ((k ≠ 1 ∧ k ≠ 2 ∧ nn ≠ 0) ∨ (k ≠ 3 ∧ b ≠ []) ∨ (k ≠ 4 ∧ l ≠ []) ∨ (k ≠ 5 ∧ f ≠ [])) := by
          have := List.length_pos_iff (l := f)
          simp at h2
          grind
        simp [refRight_spec b hb]
        refine Out_cond _ _ _ _ _ _ _ rfl (fun h3 => ?_) (fun h3 => ?_)
        · have h3' : (k = 1 ∧ nn ≠ 0 ∧ nn ≠ 1) ∨ 9007199254740991 < nn ∨ nn < -9007199254740991 ∨ rightV b = false := by
            simp at h3
            grind
          have ht : refV (.mk k nn b l f) d = false := by rw [refV, if_neg h', if_neg h2', if_pos h3']
          simp [ht]
        · have h3' : ¬ ((k = 1 ∧ nn ≠ 0 ∧ nn ≠ 1) ∨ 9007199254740991 < nn ∨ nn < -9007199254740991 ∨ rightV b = false) := by
            simp at h3
            grind
          have ht : refV (.mk k nn b l f) d = (refVs l (d - 1) && refPs [] f (d - 1)) := by rw [refV, if_neg h', if_neg h2', if_neg h3']
          simp
          refine (refLoop0 k nn b l f s.obs.length hl d ⟨by omega, by omega⟩ (fun x hx s => ihl x hx s hd) l.length 0 _ _ (by omega) (by omega) (by simp) (by simp) (by simp) (by simp)).mono ?_
          rintro e env s' ⟨rfl, ⟨g1, rfl, g3, g4⟩ | ⟨g1, rfl, g3⟩⟩
          · rw [List.drop_zero] at g1
            simp
            refine (refLoop2 k nn b l f s.obs.length hf (fun p hp => (okPs_mem hokf p hp).1) d ⟨by omega, by omega⟩ (fun x hx s => ihf x hx s hd) f.length 0 _ _ (by omega) (by omega) (by simp [g4]) (by simp [g3]) (by simp) (by simp)).mono ?_
            have hs0 : seenOf f 0 = [] := by simp [seenOf]
            rintro e env s' ⟨rfl, ⟨q1, rfl⟩ | ⟨q1, rfl, q3⟩⟩
            · rw [List.drop_zero, hs0] at q1
              simp [ht, g1, q1]
            · rw [List.drop_zero, hs0] at q1
              simp [ht, g1, q1, q3]
          · rw [List.drop_zero] at g1
            simp [ht, g1, g3]
termination_by v => SizeOf.sizeOf v
decreasing_by
  · have := List.sizeOf_lt_of_mem hx
    simp; omega
  · have := List.sizeOf_lt_of_mem hx
    obtain ⟨a, b⟩ := x
    simp at this ⊢; omega

theorem rightV_nil : rightV [] = true := by simp [rightV, badV]

mutual
theorem ref_tree : ∀ (v : JV) (d : Int), refV v d = treeV v d
  | .mk k n s l f, d => by
    have hl := refVs_tree l (d - 1)
    have hf := refPs_tree f (d - 1) []
    have hu : unusedV (.mk k n s l f) = true ↔ ((k = 1 ∨ k = 2 ∨ n = 0) ∧ (k = 3 ∨ s = [])) ∧ (k = 4 ∨ l = []) ∧ (k = 5 ∨ f = []) := by
      simp [unusedV, or_assoc, and_assoc]
    rw [refV, treeV, hl, hf]
    by_cases hd : d < 1
    · simp [hd]
    by_cases hun : unusedV (.mk k n s l f) = true
    · have h2 : ¬ (d < 1 ∨ unusedV (.mk k n s l f) = false) := by simp [hd, hun]
      rw [if_neg h2]
      have hc := hu.1 hun
      have h3 : ¬ ((k ≠ 1 ∧ k ≠ 2 ∧ n ≠ 0) ∨ (k ≠ 3 ∧ s ≠ []) ∨ (k ≠ 4 ∧ l ≠ []) ∨ (k ≠ 5 ∧ f ≠ [])) := by grind
      by_cases hk : k < 0 ∨ 5 < k
      · have e : d < 1 ∨ k < 0 ∨ 5 < k := .inr hk
        rw [if_pos e, if_neg (by omega), if_neg (by omega), if_neg (by omega), if_neg (by omega), if_neg (by omega), if_neg (by omega)]
      · rw [if_neg (by omega), if_neg h3]
        have ens : k ≠ 3 → s = [] := by grind
        have enl : k ≠ 4 → l = [] := by grind
        have enf : k ≠ 5 → f = [] := by grind
        have enn : k ≠ 1 → k ≠ 2 → n = 0 := by grind
        rcases (show k = 0 ∨ k = 1 ∨ k = 2 ∨ k = 3 ∨ k = 4 ∨ k = 5 by omega) with h | h | h | h | h | h
        · subst h
          simp [ens, enl, enf, enn, rightV_nil, treeVs, treePs, keysV]
        · subst h
          simp [ens, enl, enf, rightV_nil, treeVs, treePs, keysV]
          grind
        · subst h
          simp [ens, enl, enf, rightV_nil, treeVs, treePs, keysV]
          grind
        · subst h
          simp [enl, enf, enn, treeVs, treePs, keysV]
        · subst h
          simp [ens, enf, enn, rightV_nil, treePs, keysV]
        · subst h
          simp [ens, enl, enn, rightV_nil, treeVs]
    · have h2 : d < 1 ∨ unusedV (.mk k n s l f) = false := .inr (by simpa using hun)
      rw [if_pos h2]
      have h3 : (k ≠ 1 ∧ k ≠ 2 ∧ n ≠ 0) ∨ (k ≠ 3 ∧ s ≠ []) ∨ (k ≠ 4 ∧ l ≠ []) ∨ (k ≠ 5 ∧ f ≠ []) := by grind
      rw [if_pos h3]
      simp
theorem refVs_tree : ∀ (l : List JV) (d : Int), refVs l d = treeVs l d
  | [], d => rfl
  | v :: vs, d => by rw [refVs, treeVs, ref_tree v d, refVs_tree vs d]
theorem refPs_tree : ∀ (l : List (List UInt8 × JV)) (d : Int) (seen : List (List UInt8)), refPs seen l d = (keysV seen l && treePs l d)
  | [], d, seen => by simp [refPs, keysV, treePs]
  | p :: ps, d, seen => by
    rw [refPs, keysV, treePs, ref_tree p.2 d, refPs_tree ps d (seen ++ [p.1])]
    by_cases h1 : p.1 ∈ seen
    · simp [h1]
    · by_cases h2 : rightV p.1 = true
      · simp [h1, h2]
        cases treeV p.2 d <;> cases keysV (seen ++ [p.1]) ps <;> cases treePs ps d <;> rfl
      · simp [h1, h2]
end

end Go.Proofs.YtjdppboomglenaaDoor.Eng
