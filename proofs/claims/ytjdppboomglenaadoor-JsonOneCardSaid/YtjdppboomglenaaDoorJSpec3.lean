/-
  Values that are right: the program's tree.Right. No condition.
-/
import Derived.Test.YtjdppboomglenaaDoorJSpec2
namespace Go.Proofs.YtjdppboomglenaaDoor.Eng
open Go
set_option linter.unusedSimpArgs false
set_option linter.unusedVariables false

attribute [local simp] evC_reg evR_cons evR_nil runR_some regK_some evC_ret evC_skip evC_exit Out_seq Out_blk Out_some seqQ_norm seqQ_ret seqQ_exit blkQ_norm blkQ_ret blkQ_exit loopQ_norm loopQ_ret loopQ_exit
attribute [local simp] stepR evOp put upd_apply X.ev initEnv cells_agg cells_int cells_str cells_bool cells_sl cells_ptr cells_pnil cells_fn cells_map vc_length vc_take vc_plain vc_und toVs_plain toPs_plain toVs_und toPs_und takeN evBin isSh intBin strBin callK resOf packR fin V.plain plainL V.und undL scK kill dstsO dstsL dstsR ite_some ite_pair ite_vbool evUn evLoad evLen V.real finLoop_false quietK_false kill_none

/-- What a kind doesn't use is zero. -/
def unusedV : JV → Bool
  | .mk k n s l f => (decide (k = 1) || decide (k = 2) || decide (n = 0)) && (decide (k = 3) || decide (s = [])) && (decide (k = 4) || decide (l = [])) && (decide (k = 5) || decide (f = []))

theorem unused_spec (v : JV) (s : St) : call G 23 [toV v] s = some (.bool (unusedV v), s) := by
  obtain ⟨k, n, b, l, f⟩ := v
  refine call_out (F := af23) rfl rfl ?_
  simp [af23, af23b, vc, toVs_length, toPs_length, unusedV]

/-! ### slices.IndexFunc, ContainsFunc -/
/-- The first of which it holds. -/
def idxV {α : Type} (g : α → Bool) : List α → Nat → Int
  | [], _ => -1
  | x :: xs, i => if g x then i else idxV g xs (i + 1)

/-- A pair. -/
abbrev pv (p : List UInt8 × JV) : V := .agg (.str p.1 :: vc p.2)

theorem idxLoop42 (L : List JV) (hL : L.length ≤ 9223372036854775807) (f : FuncId) (cap : List V) (hcap : plainL cap = cap) (g : JV → Bool) :
    ∀ (m i : Nat) (env : Env) (s : St), L.length - i = m → i ≤ L.length → env 0 = .sl .no (toVs L) → env 1 = .fn (.func f) [] cap → env 7 = .int .i64 L.length → env 8 = .int .i64 i →
      (∀ x ∈ L, call G f (toV x :: cap) s = some (.bool (g x), s)) →
      Out (evC G (.loop false af42l0) env s) (fun e env' s' => s' = s ∧ ((idxV g (L.drop i) i = -1 ∧ e = .exit 0) ∨ (idxV g (L.drop i) i ≠ -1 ∧ e = .ret ∧ env' 4 = .int .i64 (idxV g (L.drop i) i)))) := by
  intro m
  induction m with
  | zero =>
    intro i env s hm hi h0 h1 h7 h8 hc
    have : i = L.length := by omega
    subst this
    refine Out_loop G false _ _ af42l0.eq_1 _ _ _ ?_
    simp [h7, h8]
    refine Out_cond _ _ _ _ _ _ _ rfl (fun h => by simp at h) (fun _ => ?_)
    simp [idxV]
  | succ m ihm =>
    intro i env s hm hi h0 h1 h7 h8 hc
    have hlt : i < L.length := by omega
    have hd := List.drop_eq_getElem_cons hlt
    refine Out_loop G false _ _ af42l0.eq_1 _ _ _ ?_
    simp [h7, h8]
    refine Out_cond _ _ _ _ _ _ _ rfl (fun _ => ?_) (fun h => by simp at h; omega)
    simp [h0, h1, h8, toVs_get, List.getElem?_eq_getElem hlt, hc L[i] (List.getElem_mem hlt)]
    refine Out_cond _ _ _ _ _ _ _ rfl (fun hg => ?_) (fun hg => ?_)
    · rw [hd, idxV, if_pos hg]
      simp
    · rw [hd, idxV, if_neg (by simp [hg])]
      have hw : IntKind.i64.wrap ((i : Int) + 1) = ((i + 1 : Nat) : Int) := by rw [wrap_in (by omega) (by omega)]; omega
      simp [h8, hw]
      exact ihm (i + 1) _ s (by omega) (by omega) (by simp [h0]) (by simp [h1]) (by simp [h7]) (by simp) hc

theorem idxV_neg {α : Type} (g : α → Bool) : ∀ (L : List α) (i : Nat), -1 ≤ idxV g L i ∧ (0 ≤ idxV g L i ↔ L.any g = true)
  | [], i => by simp [idxV]
  | x :: xs, i => by
    unfold idxV
    have := idxV_neg g xs (i + 1)
    split
    · rename_i h
      simp [h]
      try omega
    · rename_i h
      simp [h]
      simpa using this

theorem contains42 (L : List JV) (hL : L.length ≤ 9223372036854775807) (f : FuncId) (cap : List V) (hcap : plainL cap = cap) (g : JV → Bool) (s : St)
    (hc : ∀ x ∈ L, call G f (toV x :: cap) s = some (.bool (g x), s)) : call G 25 [.sl .no (toVs L), .fn (.func f) [] cap] s = some (.bool (L.any g), s) := by
  have h42 : call G 42 [.sl .no (toVs L), .fn (.func f) [] cap] s = some (.int .i64 (idxV g L 0), s) := by
    refine call_out (F := af42) rfl rfl ?_
    simp [af42, af42b, toVs_length]
    refine (idxLoop42 L hL f cap hcap g L.length 0 _ s (by omega) (by omega) (by simp) (by simp) (by simp) (by simp) hc).mono ?_
    rintro e env s' ⟨rfl, ⟨h1, rfl⟩ | ⟨h1, rfl, h2⟩⟩
    · rw [List.drop_zero] at h1
      simp [h1]
    · rw [List.drop_zero] at h2
      simp [h2]
  refine call_out (F := af25) rfl rfl ?_
  simp [af25, af25b, h42, hcap]
  have := idxV_neg g L 0
  by_cases h : L.any g = true
  · have h0 := this.2.2 h
    simp [h, h0]
  · have h0 : ¬ 0 ≤ idxV g L 0 := fun q => h (this.2.1 q)
    have h' : L.any g = false := by simpa using h
    simp [h', h0]

theorem idxLoop43 (L : List (List UInt8 × JV)) (hL : L.length ≤ 9223372036854775807) (f : FuncId) (cap : List V) (hcap : plainL cap = cap) (g : (List UInt8 × JV) → Bool) :
    ∀ (m i : Nat) (env : Env) (s : St), L.length - i = m → i ≤ L.length → env 0 = .sl .no (toPs L) → env 1 = .fn (.func f) [] cap → env 7 = .int .i64 L.length → env 8 = .int .i64 i →
      (∀ x ∈ L, call G f (pv x :: cap) s = some (.bool (g x), s)) →
      Out (evC G (.loop false af43l0) env s) (fun e env' s' => s' = s ∧ ((idxV g (L.drop i) i = -1 ∧ e = .exit 0) ∨ (idxV g (L.drop i) i ≠ -1 ∧ e = .ret ∧ env' 4 = .int .i64 (idxV g (L.drop i) i)))) := by
  intro m
  induction m with
  | zero =>
    intro i env s hm hi h0 h1 h7 h8 hc
    have : i = L.length := by omega
    subst this
    refine Out_loop G false _ _ af43l0.eq_1 _ _ _ ?_
    simp [h7, h8]
    refine Out_cond _ _ _ _ _ _ _ rfl (fun h => by simp at h) (fun _ => ?_)
    simp [idxV]
  | succ m ihm =>
    intro i env s hm hi h0 h1 h7 h8 hc
    have hlt : i < L.length := by omega
    have hd := List.drop_eq_getElem_cons hlt
    refine Out_loop G false _ _ af43l0.eq_1 _ _ _ ?_
    simp [h7, h8]
    refine Out_cond _ _ _ _ _ _ _ rfl (fun _ => ?_) (fun h => by simp at h; omega)
    simp [h0, h1, h8, toPs_get, List.getElem?_eq_getElem hlt, hc L[i] (List.getElem_mem hlt)]
    refine Out_cond _ _ _ _ _ _ _ rfl (fun hg => ?_) (fun hg => ?_)
    · rw [hd, idxV, if_pos hg]
      simp
    · rw [hd, idxV, if_neg (by simp [hg])]
      have hw : IntKind.i64.wrap ((i : Int) + 1) = ((i + 1 : Nat) : Int) := by rw [wrap_in (by omega) (by omega)]; omega
      simp [h8, hw]
      exact ihm (i + 1) _ s (by omega) (by omega) (by simp [h0]) (by simp [h1]) (by simp [h7]) (by simp) hc

theorem contains43 (L : List (List UInt8 × JV)) (hL : L.length ≤ 9223372036854775807) (f : FuncId) (cap : List V) (hcap : plainL cap = cap) (g : (List UInt8 × JV) → Bool) (s : St)
    (hc : ∀ x ∈ L, call G f (pv x :: cap) s = some (.bool (g x), s)) : call G 28 [.sl .no (toPs L), .fn (.func f) [] cap] s = some (.bool (L.any g), s) := by
  have h43 : call G 43 [.sl .no (toPs L), .fn (.func f) [] cap] s = some (.int .i64 (idxV g L 0), s) := by
    refine call_out (F := af43) rfl rfl ?_
    simp [af43, af43b, toPs_length]
    refine (idxLoop43 L hL f cap hcap g L.length 0 _ s (by omega) (by omega) (by simp) (by simp) (by simp) (by simp) hc).mono ?_
    rintro e env s' ⟨rfl, ⟨h1, rfl⟩ | ⟨h1, rfl, h2⟩⟩
    · rw [List.drop_zero] at h1
      simp [h1]
    · rw [List.drop_zero] at h2
      simp [h2]
  refine call_out (F := af28) rfl rfl ?_
  simp [af28, af28b, h43, hcap]
  have := idxV_neg g L 0
  by_cases h : L.any g = true
  · have h0 := this.2.2 h
    simp [h, h0]
  · have h0 : ¬ 0 ≤ idxV g L 0 := fun q => h (this.2.1 q)
    have h' : L.any g = false := by simpa using h
    simp [h', h0]

end Go.Proofs.YtjdppboomglenaaDoor.Eng
