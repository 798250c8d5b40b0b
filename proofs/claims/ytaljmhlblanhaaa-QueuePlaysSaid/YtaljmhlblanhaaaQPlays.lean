/-
  The statement QueuePlays, over values. No condition.
-/
import Derived.Test.YtaljmhlblanhaaaQAges
namespace Go.Proofs.Ytaljmhlblanhaaa.Eng.Qs
open Go Go.Proofs.Ytaljmhlblanhaaa.Eng
set_option linter.unusedSimpArgs false
set_option linter.unusedVariables false

attribute [local simp] evC_reg evC_regD evR_cons evR_nil runR_some regK_some evC_ret evC_skip evC_exit Out_seq Out_blk Out_some seqQ_norm seqQ_ret seqQ_exit blkQ_norm blkQ_ret blkQ_exit loopQ_norm loopQ_ret loopQ_exit
attribute [local simp] stepR evOp put upd_apply X.ev initEnv cells_agg cells_int cells_str cells_bool cells_sl cells_ptr cells_pnil cells_fn cells_map takeN evBin isSh intBin strBin callK resOf packR fin V.plain plainL V.und undL scK kill dstsO dstsL dstsR ite_some ite_pair ite_vbool evUn evLen V.real finLoop_false quietK_false kill_none ents_plain ents_und quietK_same

/-- The two queues, side by side. -/
structure PI (s : St) (q : Nat) (qa : Option Nat) (w : Nat) (p : Int) (M : List E) (t : Int) (i : Nat) : Prop where
  hq : QS s q qa p (ages t M)
  hw : s.obs[w]? = some (.cells 40 [.int .i64 p, .sl .no (ents M), .int .i64 t])
  nq : w ≠ q
  na : ∀ a, qa = some a → w ≠ a
  age : ∀ e ∈ M, 0 ≤ t - e.2 ∧ t - e.2 ≤ t
  t0 : 0 ≤ t
  tl : t ≤ i
  ml : M.length ≤ i

theorem ages_length (t : Int) (M : List E) : (ages t M).length = M.length := by simp [ages]
theorem ages_snoc (t : Int) (M : List E) (x : List UInt8) : ages t M ++ [(x, 0)] = ages t (M ++ [(x, t)]) := by simp [ages]
theorem ages_take (t : Int) (M : List E) (n : Nat) : ((ages t M).eraseIdx n).map inc = ages (t + 1) (M.eraseIdx n) := by
  simp only [ages]
  rw [← mapErase, List.map_map]
  apply List.map_congr_left
  intro e _
  simp only [Function.comp_apply, inc, Prod.mk.injEq, true_and]
  omega

theorem ld3 {s : St} {w : Nat} {p t : Int} {l : List V} (h : s.obs[w]? = some (.cells 40 [.int .i64 p, .sl .no l, .int .i64 t])) : evLoad (some 3) (.ptr w 0) s = some (.agg [.int .i64 p, .sl .no l, .int .i64 t], s) := by
  simp [evLoad, h]
theorem ld31 {s : St} {w : Nat} {p t : Int} {l : List V} (h : s.obs[w]? = some (.cells 40 [.int .i64 p, .sl .no l, .int .i64 t])) : evLoad none (.ptr w 1) s = some (.sl .no l, s) := by
  simp [evLoad, h]
theorem ld32 {s : St} {w : Nat} {p t : Int} {l : List V} (h : s.obs[w]? = some (.cells 40 [.int .i64 p, .sl .no l, .int .i64 t])) : evLoad none (.ptr w 2) s = some (.int .i64 t, s) := by
  simp [evLoad, h]
theorem st3 {s : St} {w : Nat} {p t p' t' : Int} {l : List V} {o : Own} {l' : List V} (h : s.obs[w]? = some (.cells 40 [.int .i64 p, .sl o l, .int .i64 t])) :
    evStore 3 (.ptr w 0) (.agg [.int .i64 p', .sl .no l', .int .i64 t']) s = some (.tup [], ⟨s.obs.set w (.cells 40 [.int .i64 p', .sl .no l', .int .i64 t']), s.bufs⟩) := by
  simp [evStore, h, V.one, putL]

theorem playsInner {s : St} {w : Nat} {p t : Int} {M : List E} (hM : M.length ≤ 1000000) (ht : ∀ e ∈ M, 0 ≤ t - e.2 ∧ t - e.2 ≤ 1000000) (hw : s.obs[w]? = some (.cells 40 [.int .i64 p, .sl .no (ents M), .int .i64 t])) :
    ∀ (m k : Nat) (env : Env), M.length - k = m → k ≤ M.length → env 13 = .sl .no (iv ((ages t M).map (·.2))) → env 6 = .ptr w 0 → env 14 = .int .i64 k →
      Out (evC G (.loop false af5l0) env s) (fun e env' s' => e = .exit 2 ∧ s' = s ∧ env' 1 = env 1 ∧ env' 5 = env 5 ∧ env' 6 = env 6 ∧ env' 7 = env 7) := by
  have hal : ((ages t M).map (·.2)).length = M.length := by simp [ages]
  have l1 := ld31 hw
  have l2 := ld32 hw
  intro m
  induction m with
  | zero =>
    intro k env hm hk g13 g6 g14
    have : k = M.length := by omega
    subst this
    refine Out_loop G false _ _ af5l0.eq_1 _ _ _ ?_
    simp only [← hal] at g14
    simp [g13, g14]
    refine Out_cond _ _ _ _ _ _ _ rfl (fun h => by simp at h) (fun _ => ?_)
    simp [g6]
  | succ m ihm =>
    intro k env hm hk g13 g6 g14
    have hlt : k < M.length := by omega
    obtain ⟨e, he⟩ : ∃ e, M[k]? = some e := ⟨_, List.getElem?_eq_getElem hlt⟩
    have hge := ents_get he
    have hgz : (ents M)[((k : Nat) : Int).toNat]? = some (.agg [.str e.1, .int .i64 e.2]) := hge
    have hgi : (iv ((ages t M).map (·.2)))[((k : Nat) : Int).toNat]? = some (.int .i64 (t - e.2)) := by
      rw [Int.toNat_natCast]
      refine iv_get ?_
      simp [ages, he]
    have hte := ht e (List.mem_of_getElem? he)
    have hw0 : IntKind.i64.wrap (t - e.2) = t - e.2 := wrap_in (by omega) (by omega)
    have hwk : IntKind.i64.wrap ((k : Int) + 1) = ((k + 1 : Nat) : Int) := by rw [wrap_in (by omega) (by omega)]; omega
    have hil : (iv ((ages t M).map (·.2))).length = M.length := by rw [iv_length, hal]
    generalize hIV : iv ((ages t M).map (·.2)) = IV at g13 hgi hil
    refine Out_loop G false _ _ af5l0.eq_1 _ _ _ ?_
    simp [g13, g14, hil]
    refine Out_cond _ _ _ _ _ _ _ rfl (fun _ => ?_) (fun h => by simp at h; omega)
    simp [g13, g14, g6, ↓hgi, ↓hgz, ld_ept, l1, l2, hw0]
    refine Out_cond _ _ _ _ _ _ _ rfl (fun h => by simp at h) (fun _ => ?_)
    simp [g14, hwk]
    refine Out.mono (ihm (k + 1) _ (by omega) (by omega) ?_ ?_ ?_) ?_
    · simp [g13, hIV]
    · simp [g6]
    · simp
    · rintro e' env' s' ⟨rfl, rfl, k1, k5, k6, k7⟩
      refine ⟨rfl, rfl, by rw [k1]; simp, by rw [k5]; simp, by rw [k6]; simp [g6], by rw [k7]; simp⟩

theorem PI.put {s : St} {q : Nat} {qa : Option Nat} {w : Nat} {p : Int} {M : List E} {t : Int} {i : Nat} (h : PI s q qa w p M t i) (hi : i ≤ 80) (x : List UInt8) :
    ∃ s1 a', call G 13 [.ptr q 0, .str x] s = some (.tup [], s1) ∧ s1.obs[w]? = some (.cells 40 [.int .i64 p, .sl .no (ents M), .int .i64 t]) ∧
      PI ⟨s1.obs.set w (.cells 40 [.int .i64 p, .sl .no (ents (M ++ [(x, t)])), .int .i64 t]), s1.bufs⟩ q (some a') w p (M ++ [(x, t)]) t (i + 1) := by
  have hml := h.ml
  obtain ⟨s1, a', c1, hq1, hle, ha, hf, _⟩ := put_spec h.hq x (by rw [ages_length]; omega)
  rw [ages_snoc] at hq1
  have hwl := Eng.obs_lt h.hw
  have hw1 : s1.obs[w]? = some (.cells 40 [.int .i64 p, .sl .no (ents M), .int .i64 t]) := by
    rw [hf w hwl h.nq (fun e => h.na w e rfl)]; exact h.hw
  have hna : ∀ a, some a' = some a → w ≠ a := by
    rintro a e
    cases e
    rcases ha with ha | ha
    · exact h.na _ ha
    · omega
  refine ⟨s1, a', c1, hw1, ?_⟩
  constructor
  · exact hq1.frame (List.getElem?_set_ne h.nq) (fun i hi => List.getElem?_set_ne (hna i hi))
  · exact List.getElem?_set_self (Eng.obs_lt hw1)
  · exact h.nq
  · exact hna
  · intro e he
    simp only [List.mem_append, List.mem_cons, List.not_mem_nil, or_false] at he
    have := h.t0
    rcases he with he | rfl
    · exact h.age e he
    · simp; omega
  · exact h.t0
  · have := h.tl; omega
  · simp; omega

theorem PI.take {s : St} {q : Nat} {qa : Option Nat} {w : Nat} {p : Int} {M : List E} {t : Int} {i : Nat} (h : PI s q qa w p M t i) (hi : i ≤ 80) (pick : Int) :
    ∃ (M' : List E) (t' : Int) (x : List UInt8) (b : Bool) (s3 : St), call G 15 [rq p M t, .int .i64 pick] s = some (.tup [rq p M' t', .str x, .bool b], s) ∧
      call G 16 [.ptr q 0, .int .i64 pick] ⟨(s.obs ++ [AObj.cells 40 [.int .i64 p, .sl .no (ents M'), .int .i64 t']]).set w (AObj.cells 40 [.int .i64 p, .sl .no (ents M'), .int .i64 t']), s.bufs⟩ = some (.tup [.str x, .bool b], s3) ∧
      PI s3 q qa w p M' t' (i + 1) := by
  have hml := h.ml
  have htl := h.tl
  have ht0 := h.t0
  have hwl := Eng.obs_lt h.hw
  have hlt := h.hq.lt
  have hfr : ∀ (o1 o2 : AObj) (k : Nat), k < s.obs.length → w ≠ k → ((s.obs ++ [o1]).set w o2)[k]? = s.obs[k]? := fun o1 o2 k hk hwk => by
    rw [List.getElem?_set_ne hwk, List.getElem?_append_left hk]
  by_cases hM : M = []
  · subst hM
    refine ⟨[], t, [], false, _, rtake_none p t pick s, take_none (a := qa) (p := p) ?_ pick, ?_⟩
    · exact h.hq.frame (hfr _ _ q hlt.1 h.nq) (fun i hi => hfr _ _ i (hlt.2 i hi).1 (h.na i hi))
    · constructor
      · exact h.hq.frame (hfr _ _ q hlt.1 h.nq) (fun i hi => hfr _ _ i (hlt.2 i hi).1 (h.na i hi))
      · exact List.getElem?_set_self (by simp; omega)
      · exact h.nq
      · exact h.na
      · exact h.age
      · exact h.t0
      · omega
      · omega
  · obtain ⟨a, rfl⟩ : ∃ a, qa = some a := by
      cases qa with
      | none =>
        have := congrArg List.length h.hq.1
        rw [ages_length] at this
        exact absurd (List.length_eq_zero_iff.1 this) hM
      | some a => exact ⟨a, rfl⟩
    have hane : ages t M ≠ [] := by simpa [ages] using hM
    have hb := nextV_lt p (ages t M) pick hane
    rw [ages_length] at hb
    have hnl : (nextV p (ages t M) pick).toNat < M.length := by omega
    obtain ⟨e, he⟩ : ∃ e, M[(nextV p (ages t M) pick).toNat]? = some e := ⟨_, List.getElem?_eq_getElem hnl⟩
    have he' : (ages t M)[(nextV p (ages t M) pick).toNat]? = some (e.1, t - e.2) := by
      simp only [ages, List.getElem?_map] at he ⊢
      rw [he]; rfl
    have c15 := rtake_spec p t M (by omega) (fun e he => by have := h.age e he; omega) (by omega) pick e he s
    generalize hR : AObj.cells 40 [.int .i64 p, .sl .no (ents (M.eraseIdx (nextV p (ages t M) pick).toNat)), .int .i64 (t + 1)] = R
    have hq2 : QS ⟨(s.obs ++ [R]).set w R, s.bufs⟩ q (some a) p (ages t M) := h.hq.frame (hfr _ _ q hlt.1 h.nq) (fun i hi => hfr _ _ i (hlt.2 i hi).1 (h.na i hi))
    obtain ⟨s3, c16, hq3, hle3, hf3, _⟩ := take_spec hq2 (by rw [ages_length]; omega) (fun e he => by
      simp only [ages, List.mem_map] at he
      obtain ⟨e0, he0, rfl⟩ := he
      have := h.age e0 he0
      simp only
      omega) pick _ he'
    rw [ages_take] at hq3
    refine ⟨_, _, _, _, s3, c15, ?_, ?_⟩
    · rw [hR]
      exact c16
    · constructor
      · exact hq3
      · rw [hf3 w h.nq (h.na a rfl)]
        show ((s.obs ++ [R]).set w R)[w]? = _
        rw [List.getElem?_set_self (by simp; omega), hR]
      · exact h.nq
      · exact h.na
      · intro e0 he0
        have := h.age e0 (List.mem_of_mem_eraseIdx he0)
        omega
      · omega
      · omega
      · rw [List.length_eraseIdx]; split <;> omega

theorem playsLoop {q w : Nat} {p : Int} {ops : List OP} (hops : ops.length ≤ 80) : ∀ (m i : Nat) (s : St) (env : Env) (qa : Option Nat) (M : List E) (t : Int),
    ops.length - i = m → i ≤ ops.length → PI s q qa w p M t i → env 1 = .sl .no (opsv ops) → env 5 = .ptr q 0 → env 6 = .ptr w 0 → env 7 = .int .i64 i →
      Out (evC G (.loop false af5l1) env s) (fun e env' s' => e = .exit 0) := by
  intro m
  induction m with
  | zero =>
    intro i s env qa M t hm hi hI g1 g5 g6 g7
    have : i = ops.length := by omega
    subst this
    refine Out_loop G false _ _ af5l1.eq_1 _ _ _ ?_
    simp [g1, g7]
    refine Out_cond _ _ _ _ _ _ _ rfl (fun h => by simp at h) (fun _ => ?_)
    simp
  | succ m ihm =>
    intro i s env qa M t hm hi hI g1 g5 g6 g7
    have hlt : i < ops.length := by omega
    obtain ⟨b, pk, sx, hop⟩ : ∃ b pk sx, ops[i]? = some (b, pk, sx) := ⟨_, _, _, List.getElem?_eq_getElem hlt⟩
    have hog := opsv_get hop
    have hogz : (opsv ops)[((i : Nat) : Int).toNat]? = some (.agg [.bool b, .int .i64 pk, .str sx]) := hog
    have hw : IntKind.i64.wrap ((i : Int) + 1) = ((i + 1 : Nat) : Int) := by rw [wrap_in (by omega) (by omega)]; omega
    refine Out_loop G false _ _ af5l1.eq_1 _ _ _ ?_
    simp [g1, g7]
    refine Out_cond _ _ _ _ _ _ _ rfl (fun _ => ?_) (fun h => by simp at h; omega)
    simp [g1, g7, ↓hogz, ld_ept]
    refine Out.mono (Q := fun e env' s' => e = .norm ∧ (∃ qa' M' t', PI s' q qa' w p M' t' (i + 1)) ∧ env' 1 = .sl .no (opsv ops) ∧ env' 5 = .ptr q 0 ∧ env' 6 = .ptr w 0 ∧ env' 7 = .int .i64 i) ?_ ?_
    · refine Out_cond _ _ _ _ _ _ _ rfl (fun hb => ?_) (fun hb => ?_)
      · obtain ⟨s1, a', c13, hw1, hI'⟩ := hI.put (by omega) sx
        have c14 := rput_spec p t M sx (by have := hI.ml; omega) s1
        simp only [rq] at c14
        simp [g5, g1, g7, ↓hogz, ld_ept, c13, g6, ld3 hw1, c14, st3 hw1]
        exact ⟨_, _, _, hI'⟩
      · obtain ⟨M', t', x, b', s3, c15, c16, hI'⟩ := hI.take (by omega) pk
        simp only [rq] at c15
        have hw0 := hI.hw
        have hwl := Eng.obs_lt hw0
        have n1 : (s.obs ++ [AObj.cells 40 [.int .i64 0, .sl .nil [], .int .i64 0]])[s.obs.length]? = some (.cells 40 [.int .i64 0, .sl .nil [], .int .i64 0]) := by simp
        have st1 := st3 (s := ⟨s.obs ++ [AObj.cells 40 [.int .i64 0, .sl .nil [], .int .i64 0]], s.bufs⟩) (p' := p) (t' := t') (l' := ents M') n1
        have e1 : (s.obs ++ [AObj.cells 40 [.int .i64 0, .sl .nil [], .int .i64 0]]).set s.obs.length (.cells 40 [.int .i64 p, .sl .no (ents M'), .int .i64 t']) = s.obs ++ [AObj.cells 40 [.int .i64 p, .sl .no (ents M'), .int .i64 t']] := by simp
        simp only [e1] at st1
        have n2 : (s.obs ++ [AObj.cells 40 [.int .i64 p, .sl .no (ents M'), .int .i64 t']])[s.obs.length]? = some (.cells 40 [.int .i64 p, .sl .no (ents M'), .int .i64 t']) := by simp
        have l1 := ld3 (s := ⟨s.obs ++ [AObj.cells 40 [.int .i64 p, .sl .no (ents M'), .int .i64 t']], s.bufs⟩) n2
        have n3 : (s.obs ++ [AObj.cells 40 [.int .i64 p, .sl .no (ents M'), .int .i64 t']])[w]? = some (.cells 40 [.int .i64 p, .sl .no (ents M), .int .i64 t]) := by rw [List.getElem?_append_left hwl]; exact hw0
        have st2 := st3 (s := ⟨s.obs ++ [AObj.cells 40 [.int .i64 p, .sl .no (ents M'), .int .i64 t']], s.bufs⟩) (p' := p) (t' := t') (l' := ents M') n3
        simp [g6, ld3 hw0, g1, g7, ↓hogz, ld_ept, c15, st1, l1, st2, g5, c16]
        refine Out_cond _ _ _ _ _ _ _ rfl (fun h => by simp at h) (fun _ => ?_)
        simp [g6, g1, g7, g5]
        exact ⟨_, _, _, hI'⟩
    rintro e env1 s1 ⟨rfl, ⟨qa', M', t', hI'⟩, g1, g5, g6, g7⟩
    have hml := hI'.ml
    have c17 := ages_spec hI'.hq (by rw [ages_length]; omega)
    have c18 := len_spec hI'.hq
    have hql := hI'.hq.lt.1
    have hl : (iv ((ages t' M').map (·.2))).length = M'.length := by simp [ages]
    rw [ages_length] at c18
    simp [g5, c17, c18, hql, g6, ld31 hI'.hw, ages_length]
    refine Out_cond _ _ _ _ _ _ _ rfl (fun h => by simp at h) (fun _ => ?_)
    simp
    refine Out.mono (playsInner (w := w) (p := p) (t := t') (M := M') (by omega) (fun e he => by have := hI'.age e he; have := hI'.tl; omega) hI'.hw M'.length 0 _ (by omega) (by omega) ?_ ?_ ?_) ?_
    · simp
    · simp [g6]
    · simp
    · rintro e env' s' ⟨rfl, rfl, k1, k5, k6, k7⟩
      simp [g1] at k1
      simp [g5] at k5
      simp [g6] at k6
      simp [g7] at k7
      simp [k7, hw]
      refine ihm (i + 1) _ _ qa' M' t' (by omega) (by omega) hI' ?_ ?_ ?_ ?_
      · simp [k1]
      · simp [k5]
      · simp [k6]
      · simp

/-- QueuePlays is true, whatever it is given. -/
theorem plays_spec (p : Int) (ops : List OP) (hol : ops.length ≤ 9223372036854775807) (s : St) : ∃ s', call G 5 [.int .i64 p, .sl .no (opsv ops)] s = some (.bool true, s') := by
  obtain ⟨s1, h1⟩ := awake_spec s
  suffices h : Out (evC G af5b (initEnv [.int .i64 p, .sl .no (opsv ops)]) s) (fun e env s' => e = .ret ∧ env 4 = .bool true) by
    obtain ⟨e, env, s', h, rfl, h6⟩ := h
    refine ⟨s', call_out (F := af5) rfl rfl ⟨_, _, _, h, ?_⟩⟩
    simp [af5, h6]
  obtain ⟨s1', h1'⟩ := awake_spec s1
  simp [af5b, h1]
  refine Out_cond _ _ _ _ _ _ _ rfl (fun _ => ?_) (fun hle => ?_)
  · simp [h1']
  have hops : ops.length ≤ 80 := by simp at hle; omega
  obtain ⟨s2, h2, q2, l2, f2, _⟩ := new_spec p s1
  have h3 := rnew_spec p s2
  simp only [rq] at h3
  generalize (if 0 > p then 0 else p) = p' at q2 h3
  have n1 : (s2.obs ++ [AObj.cells 40 [.int .i64 0, .sl .nil [], .int .i64 0]])[s2.obs.length]? = some (.cells 40 [.int .i64 0, .sl .nil [], .int .i64 0]) := by simp
  have st1 := st3 (s := ⟨s2.obs ++ [AObj.cells 40 [.int .i64 0, .sl .nil [], .int .i64 0]], s2.bufs⟩) (p' := p') (t' := 0) (l' := ents []) n1
  have e1 : (s2.obs ++ [AObj.cells 40 [.int .i64 0, .sl .nil [], .int .i64 0]]).set s2.obs.length (.cells 40 [.int .i64 p', .sl .no (ents []), .int .i64 0]) = s2.obs ++ [AObj.cells 40 [.int .i64 p', .sl .no (ents []), .int .i64 0]] := by simp
  simp only [e1] at st1
  simp [h2, h3, st1]
  refine Out.mono (playsLoop (q := s1.obs.length) (w := s2.obs.length) (p := p') (ops := ops) hops ops.length 0 _ _ none [] 0 (by omega) (by omega) ?_ ?_ ?_ ?_ ?_) ?_
  · constructor
    · exact q2.frame (List.getElem?_append_left (by omega)) (fun i hi => by cases hi)
    · simp
    · omega
    · intro a ha; cases ha
    · intro e he; cases he
    · omega
    · omega
    · simp
  · simp
  · simp
  · simp
  · simp
  · rintro e env' s' rfl
    simp
end Go.Proofs.Ytaljmhlblanhaaa.Eng.Qs
