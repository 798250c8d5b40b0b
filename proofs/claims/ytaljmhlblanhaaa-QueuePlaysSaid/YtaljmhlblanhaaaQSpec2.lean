/-
  The queue of numbers: which is next, Delete, Take. No condition.
-/
import Derived.Test.YtaljmhlblanhaaaQSpec1
namespace Go.Proofs.Ytaljmhlblanhaaa.Eng
open Go
set_option linter.unusedSimpArgs false
set_option linter.unusedVariables false

attribute [local simp] evC_reg evC_regD evR_cons evR_nil runR_some regK_some evC_ret evC_skip evC_exit Out_seq Out_blk Out_some seqQ_norm seqQ_ret seqQ_exit blkQ_norm blkQ_ret blkQ_exit loopQ_norm loopQ_ret loopQ_exit
attribute [local simp] stepR evOp put upd_apply X.ev initEnv cells_agg cells_int cells_str cells_bool cells_sl cells_ptr cells_pnil cells_fn cells_map takeN evBin isSh intBin strBin callK resOf packR fin V.plain plainL V.und undL scK kill dstsO dstsL dstsR ite_some ite_pair ite_vbool evUn evLoad evLen V.real finLoop_false quietK_false kill_none

theorem obs_lt {s : St} {i : Nat} {o : AObj} (h : s.obs[i]? = some o) : i < s.obs.length := (List.getElem?_eq_some_iff.1 h).1

theorem old_spec {s : St} {q c : Nat} {p : Int} {hd : V} (e : E) (hq : s.obs[q]? = some (.cells 54 [.int .i64 p, hd])) (hc : s.obs[c]? = some (.cells 24 [.ptr q 0])) :
    call G 24 [.agg [tv e.1, .int .i64 e.2], .ptr c 0] s = some (.bool (decide (p ≤ e.2)), s) := by
  have h1 : ∀ o, (s.obs ++ [o])[q]? = some (.cells 54 [.int .i64 p, hd]) := fun o => by rw [List.getElem?_append_left (obs_lt hq)]; exact hq
  have h2 : ∀ o, (s.obs ++ [o])[c]? = some (.cells 24 [.ptr q 0]) := fun o => by rw [List.getElem?_append_left (obs_lt hc)]; exact hc
  refine call_out (F := af24) rfl rfl ?_
  simp [af24, af24b, h1, h2]

/-- The first of which it holds. -/
def idxV {α : Type} (g : α → Bool) : List α → Nat → Int
  | [], _ => -1
  | x :: xs, i => if g x then i else idxV g xs (i + 1)

theorem fl_at {L : List E} {i : Nat} (h : i < L.length) (rest : List V) : (fl L ++ rest).drop (i * 2) = tv L[i].1 :: .int .i64 L[i].2 :: (fl (L.drop (i + 1)) ++ rest) := by
  rw [List.drop_append_of_le_length (by simp; omega), fl_drop, List.drop_eq_getElem_cons h]
  rfl

theorem idxLoop (L : List E) (hL : L.length ≤ 1000000) (a : Nat) (rest : List V) (f : FuncId) (cap : List V) (hcap : plainL cap = cap) (g : E → Bool) (s : St) (ha : s.obs[a]? = some (.arr 56 (fl L ++ rest)))
    (hc : ∀ e ∈ L, call G f (.agg [tv e.1, .int .i64 e.2] :: cap) s = some (.bool (g e), s)) :
    ∀ (m i : Nat) (env : Env), L.length - i = m → i ≤ L.length → env 0 = .msl a 2 0 L.length → env 1 = .fn (.func f) [] cap → env 7 = .int .i64 L.length → env 8 = .int .i64 i →
      Out (evC G (.loop false af23l0) env s) (fun e env' s' => s' = s ∧ ((idxV g (L.drop i) i = -1 ∧ e = .exit 0) ∨ (idxV g (L.drop i) i ≠ -1 ∧ e = .ret ∧ env' 4 = .int .i64 (idxV g (L.drop i) i)))) := by
  intro m
  induction m with
  | zero =>
    intro i env hm hi h0 h1 h7 h8
    have : i = L.length := by omega
    subst this
    refine Out_loop G false _ _ af23l0.eq_1 _ _ _ ?_
    simp [h7, h8]
    refine Out_cond _ _ _ _ _ _ _ rfl (fun h => by simp at h) (fun _ => ?_)
    simp [idxV]
  | succ m ihm =>
    intro i env hm hi h0 h1 h7 h8
    have hlt : i < L.length := by omega
    have hd := List.drop_eq_getElem_cons hlt
    have hat := fl_at hlt rest
    refine Out_loop G false _ _ af23l0.eq_1 _ _ _ ?_
    simp [h7, h8]
    refine Out_cond _ _ _ _ _ _ _ rfl (fun _ => ?_) (fun h => by simp at h; omega)
    simp [h0, h1, h8, hlt, ha, hat, hc L[i] (List.getElem_mem hlt)]
    refine Out_cond _ _ _ _ _ _ _ rfl (fun hg => ?_) (fun hg => ?_)
    · rw [hd, idxV, if_pos hg]
      simp
    · rw [hd, idxV, if_neg (by simp [hg])]
      have hw : IntKind.i64.wrap ((i : Int) + 1) = ((i + 1 : Nat) : Int) := by rw [wrap_in (by omega) (by omega)]; omega
      simp [h8, hw]
      exact ihm (i + 1) _ (by omega) (by omega) (by simp [h0]) (by simp [h1]) (by simp [h7]) (by simp)

theorem index_spec {s : St} (L : List E) (hL : L.length ≤ 1000000) (a : Nat) (rest : List V) (f : FuncId) (cap : List V) (hcap : plainL cap = cap) (hcap' : plainL (plainL cap) = cap) (g : E → Bool) (ha : s.obs[a]? = some (.arr 56 (fl L ++ rest)))
    (hc : ∀ e ∈ L, call G f (.agg [tv e.1, .int .i64 e.2] :: cap) s = some (.bool (g e), s)) : call G 23 [.msl a 2 0 L.length, .fn (.func f) [] cap] s = some (.int .i64 (idxV g L 0), s) := by
  refine call_out (F := af23) rfl rfl ?_
  simp [af23, af23b]
  refine (idxLoop L hL a rest f cap hcap g s ha hc L.length 0 _ (by omega) (by omega) (by simp) (by simp) (by simp) (by simp)).mono ?_
  rintro e env s' ⟨rfl, ⟨h1, rfl⟩ | ⟨h1, rfl, h2⟩⟩
  · simp at h1
    simp [h1]
  · simp at h1 h2
    simp [h2]

/-- Where the thing is that is taken next. -/
def nextV (p : Int) (L : List E) (pick : Int) : Int := if idxV (fun e => decide (p ≤ e.2)) L 0 = -1 then (pick.tmod L.length + L.length).tmod L.length else idxV (fun e => decide (p ≤ e.2)) L 0

theorem idxV_or {α : Type} (g : α → Bool) : ∀ (L : List α) (i : Nat), idxV g L i = -1 ∨ ((i : Int) ≤ idxV g L i ∧ idxV g L i < i + L.length)
  | [], i => by simp [idxV]
  | x :: xs, i => by
    unfold idxV
    have := idxV_or g xs (i + 1)
    split
    · right; simp; omega
    · simp; omega

theorem nextV_lt (p : Int) (L : List E) (pick : Int) (h : L ≠ []) : 0 ≤ nextV p L pick ∧ nextV p L pick < L.length := by
  have hl : 0 < L.length := List.length_pos_iff.2 h
  unfold nextV
  split
  · have h1 := Int.tmod_lt_of_pos pick (b := (L.length : Int)) (by omega)
    have h2 : -(L.length : Int) < pick.tmod L.length := by
      have := Int.lt_tmod_of_pos pick (b := (L.length : Int)) (by omega)
      omega
    exact ⟨Int.tmod_nonneg _ (by omega), Int.tmod_lt_of_pos _ (by omega)⟩
  · rcases idxV_or (fun e : E => decide (p ≤ e.2)) L 0 with h | h
    · contradiction
    · omega

theorem next_spec {s : St} {q a : Nat} {p : Int} {L : List E} (h : QS s q (some a) p L) (hL : L.length ≤ 1000000) (hne : L ≠ []) (pick : Int) :
    call G 19 [.ptr q 0, .int .i64 pick] s = some (.int .i64 (nextV p L pick), s) := by
  have hlt := h.lt
  obtain ⟨h1, rest, k, h2, h3, h4⟩ := h
  have hl : 0 < L.length := List.length_pos_iff.2 hne
  have m1 : ∀ o, (s.obs ++ [o])[q]? = some (.cells 54 [.int .i64 p, .msl a 2 0 L.length]) := fun o => by rw [List.getElem?_append_left hlt.1]; exact h1
  have m2 : ∀ o, (s.obs ++ [o])[a]? = some (.arr 56 (fl L ++ rest)) := fun o => by rw [List.getElem?_append_left (hlt.2 a rfl).1]; exact h2
  have h23 := index_spec (s := ⟨s.obs ++ [.cells 24 [.ptr q 0]], s.bufs⟩) L hL a rest 24 [.ptr s.obs.length 0] rfl rfl (fun e => decide (p ≤ e.2)) (m2 _) (fun e he => old_spec e (m1 _) (by simp))
  refine call_out (F := af19) rfl rfl ?_
  simp [af19, af19b, m1, h23]
  refine Out_cond _ _ _ _ _ _ _ rfl (fun hg => ?_) (fun hg => ?_)
  · have : ¬ idxV (fun e : E => decide (p ≤ e.2)) L 0 = -1 := by simp at hg; omega
    simp [nextV, this]
  · have hi : idxV (fun e : E => decide (p ≤ e.2)) L 0 = -1 := by
      rcases idxV_or (fun e : E => decide (p ≤ e.2)) L 0 with h | h
      · exact h
      · simp at hg; omega
    have b1 := Int.tmod_lt_of_pos pick (b := (L.length : Int)) (by omega)
    have b2 : -(L.length : Int) < pick.tmod L.length := Int.lt_tmod_of_pos pick (b := (L.length : Int)) (by omega)
    have hw : IntKind.i64.wrap (pick.tmod L.length + L.length) = pick.tmod L.length + L.length := wrap_in (by omega) (by omega)
    simp [nextV, hi, hw, hne, m1]
end Go.Proofs.Ytaljmhlblanhaaa.Eng
