/-
  The queue of texts: Ages. No condition.
-/
import Derived.Test.YtaljmhlblanhaaaQRef
namespace Go.Proofs.Ytaljmhlblanhaaa.Eng.Qs
open Go Go.Proofs.Ytaljmhlblanhaaa.Eng
set_option linter.unusedSimpArgs false
set_option linter.unusedVariables false

attribute [local simp] evC_reg evC_regD evR_cons evR_nil runR_some regK_some evC_ret evC_skip evC_exit Out_seq Out_blk Out_some seqQ_norm seqQ_ret seqQ_exit blkQ_norm blkQ_ret blkQ_exit loopQ_norm loopQ_ret loopQ_exit
attribute [local simp] stepR evOp put upd_apply X.ev initEnv cells_agg cells_int cells_str cells_bool cells_sl cells_ptr cells_pnil cells_fn cells_map takeN evBin isSh intBin strBin callK resOf packR fin V.plain plainL V.und undL scK kill dstsO dstsL dstsR ite_some ite_pair ite_vbool evUn evLen V.real finLoop_false quietK_false kill_none

def iv (l : List Int) : List V := l.map (V.int .i64)
@[simp] theorem iv_length (l : List Int) : (iv l).length = l.length := by simp [iv]
theorem iv_plain (l : List Int) : plainL (iv l) = iv l := by
  induction l with
  | nil => rfl
  | cons x l ih => simp only [iv, List.map_cons, plainL, V.plain] at ih ⊢; rw [ih]
theorem iv_und (l : List Int) (n b : Nat) : undL n b (iv l) = true := by
  induction l with
  | nil => rfl
  | cons x l ih => simp only [iv, List.map_cons, undL, V.und] at ih ⊢; rw [ih]; rfl
theorem iv_get {l : List Int} {i : Nat} {x : Int} (h : l[i]? = some x) : (iv l)[i]? = some (.int .i64 x) := by simp [iv, h]

/-- A slice of numbers of one's own, in a store that began as s0. -/
structure AI (s0 s : St) (o : Own) (n : Nat) : Prop where
  obs : s.obs.take s0.obs.length = s0.obs
  bufs : s.bufs.take s0.bufs.length = s0.bufs
  lo : s0.obs.length ≤ s.obs.length
  lb : s0.bufs.length ≤ s.bufs.length
  own : (n = 0 ∧ o = .nil) ∨ ∃ i, o = .buf i ∧ s0.bufs.length ≤ i ∧ s.bufs[i]? = some (n, (8, 3))

theorem AI.get {s0 s : St} {o : Own} {n : Nat} (h : AI s0 s o n) {i : Nat} {x : AObj} (hi : s0.obs[i]? = some x) : s.obs[i]? = some x := by
  have hlt := obs_lt hi
  rw [← h.obs, List.getElem?_take, if_pos hlt] at hi
  exact hi

theorem AI.more {s0 s : St} {o : Own} {n : Nat} (h : AI s0 s o n) (x : AObj) : AI s0 ⟨s.obs ++ [x], s.bufs⟩ o n :=
  ⟨by rw [List.take_append_of_le_length h.lo]; exact h.obs, h.bufs, by have := h.lo; simp; omega, h.lb, h.own⟩

theorem AI.app {s0 s : St} {o : Own} {l : List Int} (h : AI s0 s o l.length) (hd : l.length ≤ 1000000) (d : Int) :
    ∃ b' o', evApp false 1 (8, 3) (.sl o (iv l)) (.sl .no [.int .i64 d]) s = some (.sl o' (iv (l ++ [d])), ⟨s.obs, b'⟩) ∧ AI s0 ⟨s.obs, b'⟩ o' (l ++ [d]).length := by
  have hf : fits 1 (iv l) = true := by cases l <;> rfl
  have hc : fits 1 (iv l) = true ∧ fits 1 [V.int .i64 d] = true ∧ ((iv l).length + [V.int .i64 d].length) * (8, (3 : TypeId)).1 ≤ room := by
    refine ⟨hf, rfl, ?_⟩
    simp [room]
    omega
  rcases h.own with ⟨h0, rfl⟩ | ⟨i, rfl, hil, hi⟩
  · have : l = [] := List.length_eq_zero_iff.1 h0
    subst this
    refine ⟨s.bufs ++ [(1, (8, 3))], .buf s.bufs.length, ?_, h.obs, by rw [List.take_append_of_le_length h.lb]; exact h.bufs, h.lo, by have := h.lb; simp; omega, .inr ⟨_, rfl, h.lb, by simp⟩⟩
    simp only [evApp, appSrc]
    rw [if_neg (by simp), if_pos hc]
    simp [iv]
  · refine ⟨s.bufs.set i (l.length + 1, (8, 3)), .buf i, ?_, h.obs, by rw [List.take_set_of_le hil]; exact h.bufs, h.lo, by simpa using h.lb, .inr ⟨i, rfl, hil, ?_⟩⟩
    · simp only [evApp, appSrc]
      rw [if_neg (by simp), if_pos hc]
      simp [hi, iv]
    · have := (List.getElem?_eq_some_iff.1 hi).1
      simp [this]

theorem agesLoop {s0 : St} {a : Nat} {L : List E} {rest : List V} (hL : L.length ≤ 1000000) (ha : s0.obs[a]? = some (.arr 63 (fl L ++ rest))) : ∀ (m k : Nat) (s : St) (env : Env) (o : Own), L.length - k = m → k ≤ L.length → AI s0 s o k →
    env 9 = .msl a 2 0 L.length → env 10 = .int .i64 L.length → env 11 = .int .i64 k → env 3 = .sl o (iv ((L.take k).map (·.2))) →
      Out (evC G (.loop false af17l0) env s) (fun e env' s' => e = .exit 0 ∧ ∃ o', AI s0 s' o' L.length ∧ env' 3 = .sl o' (iv (L.map (·.2)))) := by
  intro m
  induction m with
  | zero =>
    intro k s env o hm hk hA g9 g10 g11 g3
    have : k = L.length := by omega
    subst this
    rw [List.take_length] at g3
    refine Out_loop G false _ _ af17l0.eq_1 _ _ _ ?_
    simp [g10, g11]
    refine Out_cond _ _ _ _ _ _ _ rfl (fun h => by simp at h) (fun _ => ?_)
    simp [g3]
    exact hA
  | succ m ihm =>
    intro k s env o hm hk hA g9 g10 g11 g3
    have hlt : k < L.length := by omega
    have hat := fl_at hlt rest
    have hld : evLoad (some 2) (.ptr a (k * 2)) s = some (.agg [.str L[k].1, .int .i64 L[k].2], s) := by
      simp only [evLoad, hA.get ha, takeN, hat]
      simp
    have hlen : ((L.take k).map (·.2)).length = k := by simp; omega
    have hA1 : AI s0 ⟨s.obs ++ [.cells 63 [.str L[k].1, .int .i64 L[k].2]], s.bufs⟩ o ((L.take k).map (·.2)).length := by rw [hlen]; exact hA.more _
    obtain ⟨b', o', c1, hA2⟩ := hA1.app (by rw [hlen]; omega) L[k].2
    have hsn : (L.take k).map (·.2) ++ [L[k].2] = (L.take (k + 1)).map (·.2) := by
      rw [List.take_add_one, List.map_append, List.getElem?_eq_getElem hlt]; rfl
    rw [hsn] at c1 hA2
    have hlen2 : ((L.take (k + 1)).map (·.2)).length = k + 1 := by simp; omega
    rw [hlen2] at hA2
    generalize (L.take k).map (·.2) = l0 at g3 c1 hlen
    generalize hl1 : (L.take (k + 1)).map (·.2) = l1 at c1
    have hw : IntKind.i64.wrap ((k : Int) + 1) = ((k + 1 : Nat) : Int) := by rw [wrap_in (by omega) (by omega)]; omega
    have hst : evStore 2 (.ptr s.obs.length 0) (.agg [.str L[k].1, .int .i64 L[k].2]) ⟨s.obs ++ [.cells 63 [.str [], .int .i64 0]], s.bufs⟩ = some (.tup [], ⟨s.obs ++ [.cells 63 [.str L[k].1, .int .i64 L[k].2]], s.bufs⟩) := by
      simp [evStore, V.one, putL]
    have hld2 : evLoad none (.ptr s.obs.length 1) ⟨s.obs ++ [.cells 63 [.str L[k].1, .int .i64 L[k].2]], s.bufs⟩ = some (.int .i64 L[k].2, ⟨s.obs ++ [.cells 63 [.str L[k].1, .int .i64 L[k].2]], s.bufs⟩) := by
      simp [evLoad]
    generalize L[k].1 = kx at hld hst hld2 c1 hA2
    generalize L[k].2 = ka at hld hst hld2 c1 hA2
    refine Out_loop G false _ _ af17l0.eq_1 _ _ _ ?_
    simp [g10, g11]
    refine Out_cond _ _ _ _ _ _ _ rfl (fun _ => ?_) (fun h => by simp at h; omega)
    simp [g9, g11, hlt, hld, hst, hld2, fillS, V.one, g3, c1, hw]
    refine Out.mono (ihm (k + 1) _ _ o' (by omega) (by omega) hA2 ?_ ?_ ?_ ?_) ?_
    · simp [g9]
    · simp [g10]
    · simp
    · simp [hl1]
    · rintro e env' s' h
      exact h

theorem ages_spec {s : St} {q : Nat} {qa : Option Nat} {p : Int} {L : List E} (h : QS s q qa p L) (hL : L.length ≤ 1000000) : call G 17 [.ptr q 0] s = some (.sl .no (iv (L.map (·.2))), s) := by
  have fin' : ∀ (s' : St) (o : Own), AI s s' o L.length → s'.obs.take s.obs.length = s.obs ∧ s'.bufs.take s.bufs.length = s.bufs := fun s' o h => ⟨h.obs, h.bufs⟩
  cases qa with
  | none =>
    obtain ⟨rfl, h1⟩ := h
    refine call_out (F := af17) rfl rfl ?_
    simp [af17, af17b, h1, evLoad]
    refine Out_loop G false _ _ af17l0.eq_1 _ _ _ ?_
    simp
    refine Out_cond _ _ _ _ _ _ _ rfl (fun h => by simp at h) (fun _ => ?_)
    simp [iv]
  | some a =>
    obtain ⟨h1, rest, k, h2, _, _⟩ := h
    refine call_out (F := af17) rfl rfl ?_
    simp [af17, af17b, h1, evLoad]
    refine Out.mono (agesLoop hL h2 L.length 0 s _ .nil (by omega) (by omega) ⟨by simp, by simp, Nat.le_refl _, Nat.le_refl _, .inl ⟨rfl, rfl⟩⟩ ?_ ?_ ?_ ?_) ?_
    · simp
    · simp
    · simp
    · simp [iv]
    · rintro e env' s' ⟨rfl, o', hA, g3⟩
      simp [g3, iv_plain, iv_und, hA.obs, hA.bufs]
end Go.Proofs.Ytaljmhlblanhaaa.Eng.Qs
