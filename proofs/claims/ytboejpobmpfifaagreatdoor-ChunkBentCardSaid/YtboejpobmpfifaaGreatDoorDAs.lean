/-
  Payloads: what the functions do, one behind the other. No condition.
-/
import Derived.Test.YtboejpobmpfifaaGreatDoorCNs
/-
  The reference's paths; an object with a pair more; Ids. No condition.
-/
namespace Go.Proofs.YtboejpobmpfifaaGreatDoor.Eng
open Go
set_option linter.unusedSimpArgs false
set_option linter.unusedVariables false

attribute [local simp] evC_condT evC_condF evC_reg evC_regD evR_cons evR_nil runR_some regK_some evC_ret evC_skip evC_exit Out_seq Out_blk Out_some seqQ_norm seqQ_ret seqQ_exit blkQ_norm blkQ_ret blkQ_exit loopQ_norm loopQ_ret loopQ_exit
attribute [local simp] stepR evOp put upd_apply X.ev initEnv cells_agg cells_int cells_str cells_bool cells_sl cells_ptr cells_pnil cells_fn cells_map vc_length vc_take vc_plain vc_und toVs_plain toPs_plain toVs_und toPs_und takeN evBin isSh intBin strBin callK resOf packR fin V.plain plainL V.und undL scK kill dstsO dstsL dstsR ite_some ite_pair ite_vbool evUn evLoad evLen V.real finLoop_false quietK_false quietK_same kill_none
attribute [local simp] pSs_plain pSs_und erVs_plain erVs_und pnVs_plain pnVs_und
attribute [local simp] sgVs_plain sgVs_und
/-! ### Paths -/
theorem rsLoop (O : List AObj) (B : List (Nat × Nat × TypeId)) (L : List PStep) (hL : L.length ≤ 1000000000) (hx : ∀ x ∈ L, x.lim) :
    ∀ (m i : Nat) (env : Env) (J : List AObj), 40 - i = m → i ≤ 40 → i ≤ L.length → env 0 = .sl .no (pSs L) → env 3 = .int .i64 i →
      Out (evC G (.loop false af88l0) env ⟨O ++ J, B⟩) (fun e env' s' => (∃ J', s' = ⟨O ++ J', B⟩) ∧ ((((L.drop i).take (40 - i)).all PStep.rightB = true ∧ e = .exit 0 ∧ env' 0 = .sl .no (pSs L)) ∨ (((L.drop i).take (40 - i)).all PStep.rightB = false ∧ e = .ret ∧ env' 2 = .bool false))) := by
  intro m
  induction m with
  | zero =>
    intro i env J hm hi hl g0 g3
    have : i = 40 := by omega
    subst this
    refine Out_loop G false _ _ af88l0.eq_1 _ _ _ ?_
    by_cases hlt : (40 : Int) < L.length
    · simp [g0, g3, pSs_length, hlt]
    · simp [g0, g3, pSs_length, hlt]
  | succ m ihm =>
    intro i env J hm hi hl g0 g3
    have hi40 : (i : Int) < 40 := by omega
    by_cases hlt : i < L.length
    · have hlt' : (i : Int) < L.length := by omega
      have hdr := List.drop_eq_getElem_cons hlt
      have hwi : IntKind.i64.wrap ((i : Int) + 1) = ((i + 1 : Nat) : Int) := by rw [wrap_in (by omega) (by omega)]; omega
      have hget : (pSs L)[((i : Nat) : Int).toNat]? = some (pS L[i]) := by rw [Int.toNat_natCast, pSs_get, List.getElem?_eq_getElem hlt]; rfl
      have ht := fun s => refRight_spec L[i].key (hx L[i] (List.getElem_mem hlt)).1 s
      have hnx := fun env J => ihm (i + 1) env J (by omega) (by omega) (by omega)
      have e40 : 40 - i = (40 - (i + 1)) + 1 := by omega
      rw [hdr, e40, List.take_succ_cons, List.all_cons]
      generalize ((L.drop (i + 1)).take (40 - (i + 1))).all PStep.rightB = tl at *
      generalize L[i] = p at *
      obtain ⟨ke, at_, idx⟩ := p
      simp only [pS] at hget ht
      refine Out_loop G false _ _ af88l0.eq_1 _ _ _ ?_
      cases idx with
      | true =>
        by_cases e1 : ke = []
        · by_cases e2 : at_ < 0
          · have e2' : ¬ 0 ≤ at_ := by omega
            simp [g0, g3, pSs_length, hlt, hi40, ↓hget, evStore, fillL, putL, V.one, List.getElem?_append_right, List.set_append_right, e1, e2, e2', PStep.rightB]
          · have e2' : 0 ≤ at_ := by omega
            by_cases e3 : 9007199254740991 < at_
            · have e3' : ¬ at_ ≤ 9007199254740991 := by omega
              simp [g0, g3, pSs_length, hlt, hi40, ↓hget, evStore, fillL, putL, V.one, List.getElem?_append_right, List.set_append_right, e1, e2, e2', e3, e3', PStep.rightB]
            · have e3' : at_ ≤ 9007199254740991 := by omega
              simp [g0, g3, pSs_length, hlt, hi40, ↓hget, evStore, fillL, putL, V.one, List.getElem?_append_right, List.set_append_right, e1, e2, e2', e3, e3', PStep.rightB, hwi]
              exact hnx _ _ (by simp [g0]) (by simp)
        · simp [g0, g3, pSs_length, hlt, hi40, ↓hget, evStore, fillL, putL, V.one, List.getElem?_append_right, List.set_append_right, e1, PStep.rightB]
      | false =>
        by_cases e1 : at_ = 0
        · cases e2 : rightV ke with
          | true =>
            simp [g0, g3, pSs_length, hlt, hi40, ↓hget, evStore, fillL, putL, V.one, List.getElem?_append_right, List.set_append_right, e1, e2, ht, PStep.rightB, hwi]
            exact hnx _ _ (by simp [g0]) (by simp)
          | false => simp [g0, g3, pSs_length, hlt, hi40, ↓hget, evStore, fillL, putL, V.one, List.getElem?_append_right, List.set_append_right, e1, e2, ht, PStep.rightB]
        · simp [g0, g3, pSs_length, hlt, hi40, ↓hget, evStore, fillL, putL, V.one, List.getElem?_append_right, List.set_append_right, e1, PStep.rightB]
    · have : i = L.length := by omega
      have hnl : ¬ ((i : Int) < L.length) := by omega
      refine Out_loop G false _ _ af88l0.eq_1 _ _ _ ?_
      rw [List.drop_eq_nil_of_le (by omega)]
      simp [g0, g3, pSs_length, hlt]

theorem refPath_spec (l : List PStep) (hl : l.length ≤ 1000000000) (hx : ∀ x ∈ l, x.lim) (s : St) : call G 88 [.sl .no (pSs l)] s = some (.bool (pathR l), s) := by
  refine call_out (F := af88) rfl rfl ?_
  simp [af88, af88b]
  have e0 : s = ⟨s.obs ++ [], s.bufs⟩ := by simp
  rw [e0]
  refine Out.mono (rsLoop s.obs s.bufs l hl hx 40 0 _ [] (by omega) (by omega) (by omega) (by simp) (by simp)) ?_
  rintro e env s' ⟨⟨J, rfl⟩, ⟨h1, rfl, g0⟩ | ⟨h1, rfl, g2⟩⟩
  · simp only [List.drop_zero, Nat.sub_zero] at h1
    by_cases e : l.length ≤ 30
    · have e' : (l.length : Int) ≤ 30 := by omega
      rw [List.take_of_length_le (by omega)] at h1
      simp only [pathR, h1]
      simp [g0, pSs_length, e, e']
    · have e' : ¬ (l.length : Int) ≤ 30 := by omega
      simp [g0, pSs_length, e, e', pathR]
  · simp only [List.drop_zero, Nat.sub_zero] at h1
    have : pathR l = false := by
      cases hp : pathR l with
      | false => rfl
      | true =>
        simp only [pathR, Bool.and_eq_true, decide_eq_true_eq] at hp
        rw [List.take_of_length_le (by omega), hp.2] at h1
        cases h1
    simp [g2, this]

theorem rvLoop (A : List AObj) (B : List (Nat × Nat × TypeId)) (L : List PStep) (hL : L.length ≤ 1000000000) :
    ∀ (m i : Nat) (env : Env) (J : List AObj), L.length - i = m → i ≤ L.length → env 0 = .sl .no (pSs L) → env 3 = .ptr A.length 0 → env 4 = .int .i64 i →
      Out (evC G (.loop false af103l0) env (CL A J B 4 0 [] ((L.take i).map stepJ))) (fun e env' s' => e = .exit 0 ∧ env' 2 = env 2 ∧ env' 3 = env 3 ∧ ∃ J', s' = CL A J' B 4 0 [] (L.map stepJ)) := by
  intro m
  induction m with
  | zero =>
    intro i env J hm hi g0 g3 g4
    have : i = L.length := by omega
    subst this
    refine Out_loop G false _ _ af103l0.eq_1 _ _ _ ?_
    simp [g0, g4, pSs_length]
    exact ⟨J, rfl⟩
  | succ m ihm =>
    intro i env J hm hi g0 g3 g4
    have hlt : i < L.length := by omega
    have hwi : IntKind.i64.wrap ((i : Int) + 1) = ((i + 1 : Nat) : Int) := by rw [wrap_in (by omega) (by omega)]; omega
    have htk : (L.take (i + 1)).map stepJ = (L.take i).map stepJ ++ [stepJ L[i]] := by rw [List.take_succ_eq_append_getElem hlt, List.map_append]; rfl
    have hle : ((L.take i).map stepJ).length ≤ 1000000000 := by rw [List.length_map, List.length_take]; omega
    have hout := fun X => CL_out A J X B 4 0 [] ((L.take i).map stepJ)
    have happ := fun X o => CL_app A J X B 4 0 [] ((L.take i).map stepJ) (stepJ L[i]) hle o
    have hset := fun X => CL_set A J X B 4 0 [] ((L.take i).map stepJ) (stepJ L[i])
    have hnx := fun env J => ihm (i + 1) env J (by omega) (by omega)
    rw [htk] at hnx
    have hget : (pSs L)[((i : Nat) : Int).toNat]? = some (pS L[i]) := by rw [Int.toNat_natCast, pSs_get, List.getElem?_eq_getElem hlt]; rfl
    generalize L[i] = p at *
    generalize (L.take i).map stepJ = acc at *
    obtain ⟨ke, at_, idx⟩ := p
    simp only [pS] at hget
    refine Out_loop G false _ _ af103l0.eq_1 _ _ _ ?_
    cases idx with
    | true =>
      simp only [stepJ, if_true, toV, vc, toVs, toPs] at happ hset
      simp [g0, g3, g4, pSs_length, hlt, ↓hget, evStore, fillL, putL, V.one, List.getElem?_append_right, List.set_append_right, ↓hout, fillS, happ, hwi]
      rw [hset]
      refine Out.mono (hnx _ _ (by simp [g0]) (by simp [g3]) (by simp)) ?_
      rintro e env' s' ⟨rfl, q1, q2, J', rfl⟩
      exact ⟨rfl, by simpa using q1, by simpa [g3] using q2, J', rfl⟩
    | false =>
      simp only [stepJ, Bool.false_eq_true, if_false, toV, vc, toVs, toPs] at happ hset
      simp [g0, g3, g4, pSs_length, hlt, ↓hget, evStore, fillL, putL, V.one, List.getElem?_append_right, List.set_append_right, ↓hout, fillS, happ, hwi]
      rw [hset]
      refine Out.mono (hnx _ _ (by simp [g0]) (by simp [g3]) (by simp)) ?_
      rintro e env' s' ⟨rfl, q1, q2, J', rfl⟩
      exact ⟨rfl, by simpa using q1, by simpa [g3] using q2, J', rfl⟩

/-- What a function leaves that made a value in a cell of its own. -/
theorem CL_end (s : St) (c0 : AObj) (J : List AObj) (k nn : Int) (b : List UInt8) (acc : List JV) :
    (CL (s.obs ++ [c0]) J s.bufs k nn b acc).obs[s.obs.length + 1]? = some (.cells 46 [.int .i64 k, .int .i64 nn, .str b, .sl (ownOf s.bufs acc) (toVs acc), .sl .nil []]) ∧
    (CL (s.obs ++ [c0]) J s.bufs k nn b acc).obs[s.obs.length]? = some c0 ∧
    (∀ X, ((CL (s.obs ++ [c0]) J s.bufs k nn b acc).obs.set s.obs.length X)[s.obs.length]? = some X) ∧
    (∀ X, ((CL (s.obs ++ [c0]) J s.bufs k nn b acc).obs.set s.obs.length X).take s.obs.length = s.obs) ∧
    (CL (s.obs ++ [c0]) J s.bufs k nn b acc).bufs.take s.bufs.length = s.bufs := by
  refine ⟨by simp [CL], by simp [CL], fun X => by simp [CL], fun X => by simp [CL, List.set_append], by simp [CL]⟩

theorem refPathValue_spec (l : List PStep) (hl : l.length ≤ 1000000000) (s : St) : call G 103 [.sl .no (pSs l)] s = some (toV (pathJ l), s) := by
  refine call_out (F := af103) rfl rfl ?_
  simp [af103, af103b, fillL, evStore, putL, V.one, List.getElem?_append, List.set_append]
  have e0 : (⟨s.obs ++ [.cells 46 [.int .i64 0, .int .i64 0, .str [], .sl .nil [], .sl .nil []], .cells 46 [.int .i64 4, .int .i64 0, .str [], .sl .nil [], .sl .nil []]], s.bufs⟩ : St) = CL (s.obs ++ [.cells 46 [.int .i64 0, .int .i64 0, .str [], .sl .nil [], .sl .nil []]]) [] s.bufs 4 0 [] ((l.take 0).map stepJ) := by
    simp [CL, ownOf, exOf, toVs]
  rw [e0]
  refine Out.mono (rvLoop _ s.bufs l hl l.length 0 _ [] (by omega) (by omega) (by simp) (by simp) (by simp)) ?_
  rintro e env s' ⟨rfl, q1, q2, J, rfl⟩
  simp at q1 q2
  obtain ⟨c3, c2, c4, c5, c6⟩ := CL_end s (.cells 46 [.int .i64 0, .int .i64 0, .str [], .sl .nil [], .sl .nil []]) J 4 0 [] (l.map stepJ)
  simp [q1, q2, c3, c2, c4, c5, c6, evStore, putL, V.one, vc, pathJ, toPs]

/-! ### An object with a pair more -/
theorem app_nil (str : Bool) (sz by_ : Nat) (t : TypeId) (x o : Own) (xs : List V) (s : St) : evApp false sz (by_, t) (.sl x xs) (.sl o []) s = some (.sl x xs, s) := by
  simp [evApp, appSrc]
theorem app_emp (sz by_ : Nat) (t : TypeId) (o : Own) (ys : List V) (s : St) (hne : ys.length ≠ 0) (hf : fits sz ys = true) (hr : ys.length * by_ ≤ room) :
    evApp false sz (by_, t) (.sl .emp []) (.sl o ys) s = some (.sl (.buf s.bufs.length) ys, ⟨s.obs, s.bufs ++ [(ys.length, by_, t)]⟩) := by
  simp [evApp, appSrc, hne, hf, hr, fits0]
theorem app_buf (sz by_ : Nat) (t : TypeId) (o : Own) (xs : List V) (z : V) (obs : List AObj) (B : List (Nat × Nat × TypeId)) (hx : fits sz xs = true) (hz : z.cells.length = sz) (hr : (xs.length + 1) * by_ ≤ room) :
    evApp false sz (by_, t) (.sl (.buf B.length) xs) (.sl o [z]) ⟨obs, B ++ [(xs.length, by_, t)]⟩ = some (.sl (.buf B.length) (xs ++ [z]), ⟨obs, B ++ [(xs.length + 1, by_, t)]⟩) := by
  have : fits sz [z] = true := by rw [fits1, hz]; simp
  simp [evApp, appSrc, hx, this, hr]

def addJ (v : JV) (k : List UInt8) (x : JV) : JV := .mk 5 0 [] [] (v.f ++ [(k, x)])
theorem add_spec (v : JV) (hv : v.f.length ≤ 1000000000) (key : List UInt8) (x : JV) (s : St) : call G 100 [toV v, .str key, toV x] s = some (toV (addJ v key x), s) := by
  obtain ⟨k, nn, b, l, f⟩ := v
  obtain ⟨k1, n1, b1, l1, f1⟩ := x
  simp only [JV.f] at hv
  have hroom : room = 140737488355328 := by decide
  have hpa := toPs_app f (key, .mk k1 n1 b1 l1 f1)
  simp only [pv, vc] at hpa
  refine call_out (F := af100) rfl rfl ?_
  cases f with
  | nil =>
    have a1 := fun s => app_nil false 6 96 63 .emp .no [] s
    have a2 := fun o s => app_emp 6 96 63 o [.agg [.str key, .int .i64 k1, .int .i64 n1, .str b1, .sl .no (toVs l1), .sl .no (toPs f1)]] s (by simp) (by simp [fits]) (by rw [hroom]; simp)
    simp [af100, af100b, vc, toPs, toVs, a1, a2, fillL, fillS, evStore, putL, V.one, List.getElem?_append, List.set_append, addJ, JV.f]
  | cons p f =>
    generalize hq : p :: f = q at *
    have hql : (toPs q).length = q.length := toPs_length q
    have hq0 : q.length ≠ 0 := by rw [← hq]; simp
    have a1 := fun o s => app_emp 6 96 63 o (toPs q) s (by omega) (fitsPs q) (by rw [hroom]; omega)
    have a2 := fun o obs B => app_buf 6 96 63 o (toPs q) (.agg [.str key, .int .i64 k1, .int .i64 n1, .str b1, .sl .no (toVs l1), .sl .no (toPs f1)]) obs B (fitsPs q) (by simp) (by rw [hroom]; omega)
    simp [af100, af100b, vc, toVs, a1, a2, fillL, fillS, evStore, putL, V.one, List.getElem?_append, List.set_append, addJ, JV.f, ← hpa]

theorem refId_spec (n : Int) (h0 : -9223372036854775808 ≤ n) (h1 : n ≤ 9223372036854775807) (s : St) : call G 102 [.int .i64 n] s = some (toV (idJ n), s) := by
  have h := fun s => number_spec n h0 h1 s
  refine call_out (F := af102) rfl rfl ?_
  simp [af102, af102b, h, idJ, vc, toVs, toPs, fillL, evStore, putL, V.one, List.getElem?_append, List.set_append]

/-- Errors, who is announced, as the reference has them. -/
def errR (e : PErr) : JV := .mk 5 0 [] [] [(kCode, .mk 2 e.e [] [] []), (kPath, pathJ e.path)]
def errsR (l : List PErr) : JV := lstJ (l.map errR)
def penR (x : PPen) : JV := .mk 5 0 [] [] ([(kId, idJ x.id), (kPath, pathJ x.path)] ++ if x.named = true then [(kLabel, strJ x.label)] else [])

theorem refErrsLoop (A : List AObj) (B : List (Nat × Nat × TypeId)) (L : List PErr) (hL : L.length ≤ 1000000000) (hlim : ∀ e ∈ L, e.lim) :
    ∀ (m i : Nat) (env : Env) (J : List AObj), L.length - i = m → i ≤ L.length → env 0 = .sl .no (erVs L) → env 3 = .ptr A.length 0 → env 4 = .int .i64 i →
      Out (evC G (.loop false af101l0) env (CL A J B 4 0 [] ((L.take i).map errR))) (fun e env' s' => e = .exit 0 ∧ env' 2 = env 2 ∧ env' 3 = env 3 ∧ ∃ J', s' = CL A J' B 4 0 [] (L.map errR)) := by
  intro m
  induction m with
  | zero =>
    intro i env J hm hi g0 g3 g4
    have : i = L.length := by omega
    subst this
    refine Out_loop G false _ _ af101l0.eq_1 _ _ _ ?_
    simp [g0, g4, erVs_length]
    exact ⟨J, rfl⟩
  | succ m ihm =>
    intro i env J hm hi g0 g3 g4
    have hlt : i < L.length := by omega
    have hwi : IntKind.i64.wrap ((i : Int) + 1) = ((i + 1 : Nat) : Int) := by rw [wrap_in (by omega) (by omega)]; omega
    have htk : (L.take (i + 1)).map errR = (L.take i).map errR ++ [errR L[i]] := by rw [List.take_succ_eq_append_getElem hlt, List.map_append]; rfl
    have hle : ((L.take i).map errR).length ≤ 1000000000 := by rw [List.length_map, List.length_take]; omega
    have hout := fun X => CL_out A J X B 4 0 [] ((L.take i).map errR)
    have happ := fun X o => CL_app A J X B 4 0 [] ((L.take i).map errR) (errR L[i]) hle o
    have hset := fun X => CL_set A J X B 4 0 [] ((L.take i).map errR) (errR L[i])
    have hnx := fun env J => ihm (i + 1) env J (by omega) (by omega)
    rw [htk] at hnx
    have hget : (erVs L)[((i : Nat) : Int).toNat]? = some (erV L[i]) := by rw [Int.toNat_natCast, erVs_get, List.getElem?_eq_getElem hlt]; rfl
    obtain ⟨l1, l2⟩ := hlim L[i] (List.getElem_mem hlt)
    have hp := fun s => refPathValue_spec L[i].path l1 s
    have a1 := fun s => add_spec jNull (by simp [jNull, JV.f]) kCode (.mk 2 L[i].e [] [] []) s
    have a2 := fun s => add_spec (addJ jNull kCode (.mk 2 L[i].e [] [] [])) (by simp [addJ, jNull, JV.f]) kPath (pathJ L[i].path) s
    have hE : addJ (addJ jNull kCode (.mk 2 L[i].e [] [] [])) kPath (pathJ L[i].path) = errR L[i] := by simp [addJ, jNull, JV.f, errR]
    rw [hE] at a2
    generalize errR L[i] = E at *
    generalize (L.take i).map errR = acc at *
    generalize pathJ L[i].path = w at *
    generalize L[i] = p at *
    obtain ⟨pa, ec⟩ := p
    obtain ⟨k, nn, b, l, f⟩ := w
    obtain ⟨k2, n2, b2, l2', f2⟩ := E
    simp only [erV, addJ, jNull, JV.f, toV, vc, toVs, toPs, List.nil_append, kCode, kPath] at hget hp a1 a2 happ hset
    refine Out_loop G false _ _ af101l0.eq_1 _ _ _ ?_
    simp [g0, g3, g4, erVs_length, hlt, ↓hget, hp, a1, a2, evStore, fillL, putL, V.one, List.getElem?_append_right, List.set_append_right, ↓hout, fillS, happ, hwi]
    rw [hset]
    refine Out.mono (hnx _ _ (by simp [g0]) (by simp [g3]) (by simp)) ?_
    rintro e env' s' ⟨rfl, q1, q2, J', rfl⟩
    exact ⟨rfl, by simpa using q1, by simpa [g3] using q2, J', rfl⟩

theorem refErrs_spec (l : List PErr) (hl : l.length ≤ 1000000000 ∧ ∀ e ∈ l, e.lim) (s : St) : call G 101 [.sl .no (erVs l)] s = some (toV (errsR l), s) := by
  refine call_out (F := af101) rfl rfl ?_
  simp [af101, af101b, fillL, evStore, putL, V.one, List.getElem?_append, List.set_append]
  have e0 : (⟨s.obs ++ [.cells 46 [.int .i64 0, .int .i64 0, .str [], .sl .nil [], .sl .nil []], .cells 46 [.int .i64 4, .int .i64 0, .str [], .sl .nil [], .sl .nil []]], s.bufs⟩ : St) = CL (s.obs ++ [.cells 46 [.int .i64 0, .int .i64 0, .str [], .sl .nil [], .sl .nil []]]) [] s.bufs 4 0 [] ((l.take 0).map errR) := by
    simp [CL, ownOf, exOf, toVs]
  rw [e0]
  refine Out.mono (refErrsLoop _ s.bufs l hl.1 hl.2 l.length 0 _ [] (by omega) (by omega) (by simp) (by simp) (by simp)) ?_
  rintro e env s' ⟨rfl, q1, q2, J, rfl⟩
  simp at q1 q2
  obtain ⟨c3, c2, c4, c5, c6⟩ := CL_end s (.cells 46 [.int .i64 0, .int .i64 0, .str [], .sl .nil [], .sl .nil []]) J 4 0 [] (l.map errR)
  simp [q1, q2, c3, c2, c4, c5, c6, evStore, putL, V.one, vc, errsR, lstJ, toPs]

/-- The payload stands ahead of the list that grows. -/
theorem CL_pay {A : List AObj} {a : Nat} {pc : List V} (ha : A[a]? = some (.cells 51 pc)) (J X : List AObj) (B : List (Nat × Nat × TypeId)) (k nn : Int) (b : List UInt8) (acc : List JV) :
    ((CL A J B k nn b acc).obs ++ X)[a]? = some (.cells 51 pc) := by
  have := (List.getElem?_eq_some_iff.1 ha).1
  simp only [CL, List.append_assoc]
  rw [List.getElem?_append_left this, ha]

theorem rpnLoop (A : List AObj) (a : Nat) (pc : List V) (B : List (Nat × Nat × TypeId)) (L : List PPen) (hL : L.length ≤ 1000000000) (hlim : ∀ e ∈ L, e.lim) (ha : A[a]? = some (.cells 51 pc)) (hpc : pc[7]? = some (.sl .no (pnVs L))) :
    ∀ (m i : Nat) (env : Env) (J : List AObj), L.length - i = m → i ≤ L.length → env 1 = .ptr a 0 → env 4 = .ptr A.length 0 → env 5 = .int .i64 i →
      Out (evC G (.loop false af28l0) env (CL A J B 4 0 [] ((L.take i).map penR))) (fun e env' s' => e = .exit 0 ∧ env' 1 = env 1 ∧ env' 2 = env 2 ∧ env' 3 = env 3 ∧ env' 4 = env 4 ∧ ∃ J', s' = CL A J' B 4 0 [] (L.map penR)) := by
  intro m
  induction m with
  | zero =>
    intro i env J hm hi g1 g4 g5
    have : i = L.length := by omega
    subst this
    have hca := CL_pay ha J [] B 4 0 [] ((L.take L.length).map penR)
    rw [List.append_nil] at hca
    simp only [List.take_length] at hca
    refine Out_loop G false _ _ af28l0.eq_1 _ _ _ ?_
    simp [g1, g4, g5, hca, hpc, pnVs_length]
    exact ⟨J, rfl⟩
  | succ m ihm =>
    intro i env J hm hi g1 g4 g5
    have hlt : i < L.length := by omega
    have hwi : IntKind.i64.wrap ((i : Int) + 1) = ((i + 1 : Nat) : Int) := by rw [wrap_in (by omega) (by omega)]; omega
    have htk : (L.take (i + 1)).map penR = (L.take i).map penR ++ [penR L[i]] := by rw [List.take_succ_eq_append_getElem hlt, List.map_append]; rfl
    have hle : ((L.take i).map penR).length ≤ 1000000000 := by rw [List.length_map, List.length_take]; omega
    have hout := fun X => CL_out A J X B 4 0 [] ((L.take i).map penR)
    have hca := fun X => CL_pay ha J X B 4 0 [] ((L.take i).map penR)
    have hca0 := hca []
    rw [List.append_nil] at hca0
    have happ := fun X o => CL_app A J X B 4 0 [] ((L.take i).map penR) (penR L[i]) hle o
    have hset := fun X => CL_set A J X B 4 0 [] ((L.take i).map penR) (penR L[i])
    have hnx := fun env J => ihm (i + 1) env J (by omega) (by omega)
    rw [htk] at hnx
    have hget : (pnVs L)[((i : Nat) : Int).toNat]? = some (pnV L[i]) := by rw [Int.toNat_natCast, pnVs_get, List.getElem?_eq_getElem hlt]; rfl
    obtain ⟨l0, l1, _, _⟩ := hlim L[i] (List.getElem_mem hlt)
    have hp := fun s => refPathValue_spec L[i].path l1 s
    have hid := fun s => refId_spec L[i].id l0.1 l0.2 s
    have a1 := fun s => add_spec jNull (by simp [jNull, JV.f]) kId (idJ L[i].id) s
    have a2 := fun s => add_spec (addJ jNull kId (idJ L[i].id)) (by simp [addJ, jNull, JV.f]) kPath (pathJ L[i].path) s
    have a3 := fun s => add_spec (addJ (addJ jNull kId (idJ L[i].id)) kPath (pathJ L[i].path)) (by simp [addJ, jNull, JV.f]) kLabel (strJ L[i].label) s
    cases hnm : L[i].named with
    | true =>
      have hE : addJ (addJ (addJ jNull kId (idJ L[i].id)) kPath (pathJ L[i].path)) kLabel (strJ L[i].label) = penR L[i] := by simp [addJ, jNull, JV.f, penR, hnm]
      rw [hE] at a3
      generalize penR L[i] = E at *
      generalize addJ (addJ jNull kId (idJ L[i].id)) kPath (pathJ L[i].path) = E2 at *
      generalize addJ jNull kId (idJ L[i].id) = E1 at *
      generalize (L.take i).map penR = acc at *
      generalize pathJ L[i].path = w at *
      generalize idJ L[i].id = w2 at *
      generalize L[i] = p at *
      obtain ⟨pid, pa, la, na⟩ := p
      simp only at hnm
      subst hnm
      obtain ⟨k, nn, b, l, f⟩ := w
      obtain ⟨k1, n1, b1, l1', f1⟩ := w2
      obtain ⟨k2, n2, b2, l2, f2⟩ := E
      obtain ⟨k3, n3, b3, l3, f3⟩ := E1
      obtain ⟨k4, n4, b4, l4, f4⟩ := E2
      simp only [pnV, strJ, jNull, toV, vc, toVs, toPs, kId, kPath, kLabel] at hget hp hid a1 a2 a3 happ hset
      refine Out_loop G false _ _ af28l0.eq_1 _ _ _ ?_
      simp [g1, g4, g5, ↓hca, ↓hca0, hpc, pnVs_length, hlt, ↓hget, hp, hid, a1, a2, a3, evStore, fillL, putL, V.one, List.getElem?_append_right, List.set_append_right, ↓hout, fillS, happ, hwi]
      rw [hset]
      refine Out.mono (hnx _ _ (by simp [g1]) (by simp [g4]) (by simp)) ?_
      rintro e env' s' ⟨rfl, q1, q2, q3, q4, J', rfl⟩
      exact ⟨rfl, by simpa [g1] using q1, by simpa using q2, by simpa using q3, by simpa [g4] using q4, J', rfl⟩
    | false =>
      have hE : addJ (addJ jNull kId (idJ L[i].id)) kPath (pathJ L[i].path) = penR L[i] := by simp [addJ, jNull, JV.f, penR, hnm]
      clear a3
      rw [hE] at a2
      generalize penR L[i] = E at *
      generalize addJ jNull kId (idJ L[i].id) = E1 at *
      generalize (L.take i).map penR = acc at *
      generalize pathJ L[i].path = w at *
      generalize idJ L[i].id = w2 at *
      generalize L[i] = p at *
      obtain ⟨pid, pa, la, na⟩ := p
      simp only at hnm
      subst hnm
      obtain ⟨k, nn, b, l, f⟩ := w
      obtain ⟨k1, n1, b1, l1', f1⟩ := w2
      obtain ⟨k2, n2, b2, l2, f2⟩ := E
      obtain ⟨k3, n3, b3, l3, f3⟩ := E1
      simp only [pnV, strJ, jNull, toV, vc, toVs, toPs, kId, kPath, kLabel] at hget hp hid a1 a2 happ hset
      refine Out_loop G false _ _ af28l0.eq_1 _ _ _ ?_
      simp [g1, g4, g5, ↓hca, ↓hca0, hpc, pnVs_length, hlt, ↓hget, hp, hid, a1, a2, evStore, fillL, putL, V.one, List.getElem?_append_right, List.set_append_right, ↓hout, fillS, happ, hwi]
      rw [hset]
      refine Out.mono (hnx _ _ (by simp [g1]) (by simp [g4]) (by simp)) ?_
      rintro e env' s' ⟨rfl, q1, q2, q3, q4, J', rfl⟩
      exact ⟨rfl, by simpa [g1] using q1, by simpa using q2, by simpa using q3, by simpa [g4] using q4, J', rfl⟩

theorem rodLoop (A : List AObj) (a : Nat) (pc : List V) (B : List (Nat × Nat × TypeId)) (L : List (List UInt8)) (hL : L.length ≤ 1000000000) (ha : A[a]? = some (.cells 51 pc)) (hpc : pc[11]? = some (.sl .no (sgVs L))) :
    ∀ (m i : Nat) (env : Env) (J : List AObj), L.length - i = m → i ≤ L.length → env 1 = .ptr a 0 → env 9 = .ptr A.length 0 → env 10 = .int .i64 i →
      Out (evC G (.loop false af28l1) env (CL A J B 4 0 [] ((L.take i).map strJ))) (fun e env' s' => e = .exit 2 ∧ env' 1 = env 1 ∧ env' 2 = env 2 ∧ env' 3 = env 3 ∧ env' 8 = env 8 ∧ env' 9 = env 9 ∧ ∃ J', s' = CL A J' B 4 0 [] (L.map strJ)) := by
  intro m
  induction m with
  | zero =>
    intro i env J hm hi g1 g9 g10
    have : i = L.length := by omega
    subst this
    have hca := CL_pay ha J [] B 4 0 [] ((L.take L.length).map strJ)
    rw [List.append_nil] at hca
    simp only [List.take_length] at hca
    refine Out_loop G false _ _ af28l1.eq_1 _ _ _ ?_
    simp [g1, g9, g10, hca, hpc, sgVs_length]
    exact ⟨J, rfl⟩
  | succ m ihm =>
    intro i env J hm hi g1 g9 g10
    have hlt : i < L.length := by omega
    have hwi : IntKind.i64.wrap ((i : Int) + 1) = ((i + 1 : Nat) : Int) := by rw [wrap_in (by omega) (by omega)]; omega
    have htk : (L.take (i + 1)).map strJ = (L.take i).map strJ ++ [strJ L[i]] := by rw [List.take_succ_eq_append_getElem hlt, List.map_append]; rfl
    have hle : ((L.take i).map strJ).length ≤ 1000000000 := by rw [List.length_map, List.length_take]; omega
    have hout := fun X => CL_out A J X B 4 0 [] ((L.take i).map strJ)
    have hout0 := hout []
    rw [List.append_nil] at hout0
    have hca0 := CL_pay ha J [] B 4 0 [] ((L.take i).map strJ)
    rw [List.append_nil] at hca0
    have happ := fun X o => CL_app A J X B 4 0 [] ((L.take i).map strJ) (strJ L[i]) hle o
    have happ0 := happ []
    simp only [List.append_nil] at happ0
    have hset := fun X => CL_set A J X B 4 0 [] ((L.take i).map strJ) (strJ L[i])
    have hset0 := hset []
    simp only [List.append_nil] at hset0
    have hnx := fun env J => ihm (i + 1) env J (by omega) (by omega)
    rw [htk] at hnx
    have hget : (sgVs L)[((i : Nat) : Int).toNat]? = some (.str L[i]) := by rw [Int.toNat_natCast, sgVs_get, List.getElem?_eq_getElem hlt]; rfl
    generalize (L.take i).map strJ = acc at *
    generalize L[i] = p at *
    simp only [strJ, toV, vc, toVs, toPs] at happ0 hset0
    refine Out_loop G false _ _ af28l1.eq_1 _ _ _ ?_
    simp [g1, g9, g10, ↓hca0, hpc, sgVs_length, hlt, ↓hget, evStore, fillL, putL, V.one, ↓hout0, fillS, happ0, hwi]
    rw [hset0]
    refine Out.mono (hnx _ _ (by simp [g1]) (by simp [g9]) (by simp)) ?_
    rintro e env' s' ⟨rfl, q1, q2, q3, q4, q5, J', rfl⟩
    exact ⟨rfl, by simpa [g1] using q1, by simpa using q2, by simpa using q3, by simpa using q4, by simpa [g9] using q5, J', rfl⟩

/-! A payload's value, as the reference has it. -/
def f1R (p : Pay) : List (List UInt8 × JV) := if p.first = true then (kData, p.data) :: (if p.errs = [] then [] else [(kErrors, errsR p.errs)]) else []
def f2R (p : Pay) : List (List UInt8 × JV) := if p.pend = [] then [] else [(kPending, lstJ (p.pend.map penR))]
def g1R (p : Pay) : List (List UInt8 × JV) := (kId, idJ p.id) :: (if p.stream = true then [(kItems, lstJ [p.data])] else [(kData, p.data), (kOrder, lstJ (p.order.map strJ))])
def recR (p : Pay) : JV := .mk 5 0 [] [] (g1R p ++ (if p.errs = [] then [] else [(kErrors, errsR p.errs)]))
def f3R (p : Pay) : List (List UInt8 × JV) := if p.rcd = true then [(kInc, lstJ [recR p])] else []
def endR (p : Pay) : JV := .mk 5 0 [] [] ((kId, idJ p.id) :: if p.failed = true then [(kErrors, errsR p.errs)] else [])
def f4R (p : Pay) : List (List UInt8 × JV) := if p.ended = true then [(kComp, lstJ [endR p])] else []
def payR (p : Pay) : JV := .mk 5 0 [] [] (f1R p ++ f2R p ++ f3R p ++ f4R p ++ [(kNext, flagJ p.more)])

def VS (s : St) (pc : List V) (o1 o2 : Own) (f : List (List UInt8 × JV)) (J : List AObj) (X : List (Nat × Nat × TypeId)) : St :=
  ⟨s.obs ++ .cells 51 pc :: .cells 46 [.int .i64 0, .int .i64 0, .str [], .sl .nil [], .sl .nil []] :: .cells 46 [.int .i64 5, .int .i64 0, .str [], .sl o1 [], .sl o2 (toPs f)] :: J, s.bufs ++ X⟩
section
variable (s : St) (pc : List V) (o1 o2 : Own) (f : List (List UInt8 × JV)) (J Y : List AObj) (X : List (Nat × Nat × TypeId))
theorem VS_pay : ((VS s pc o1 o2 f J X).obs ++ Y)[s.obs.length]? = some (.cells 51 pc) := by simp [VS]
theorem VS_pay0 : (VS s pc o1 o2 f J X).obs[s.obs.length]? = some (.cells 51 pc) := by simp [VS]
theorem VS_val : ((VS s pc o1 o2 f J X).obs ++ Y)[s.obs.length + 2]? = some (.cells 46 [.int .i64 5, .int .i64 0, .str [], .sl o1 [], .sl o2 (toPs f)]) := by simp [VS]
theorem VS_val0 : (VS s pc o1 o2 f J X).obs[s.obs.length + 2]? = some (.cells 46 [.int .i64 5, .int .i64 0, .str [], .sl o1 [], .sl o2 (toPs f)]) := by simp [VS]
theorem VS_sv (x : AObj) : ((VS s pc o1 o2 f J X).obs.set (s.obs.length + 2) x)[s.obs.length + 2]? = some x := by simp [VS]
theorem VS_sp (x : AObj) : ((VS s pc o1 o2 f J X).obs.set (s.obs.length + 2) x)[s.obs.length]? = some (.cells 51 pc) := by simp [VS, List.set_append]
theorem VS_er (x : AObj) : (((VS s pc o1 o2 f J X).obs ++ Y).set (s.obs.length + 1) x)[s.obs.length + 1]? = some x := by simp [VS, List.set_append]
theorem VS_et (x : AObj) : (((VS s pc o1 o2 f J X).obs ++ Y).set (s.obs.length + 1) x).take s.obs.length = s.obs := by simp [VS, List.set_append]
theorem VS_eb : (VS s pc o1 o2 f J X).bufs.take s.bufs.length = s.bufs := by simp [VS]
theorem VS_res : ((VS s pc o1 o2 f J X).obs ++ Y)[s.obs.length + 1]? = some (.cells 46 [.int .i64 0, .int .i64 0, .str [], .sl .nil [], .sl .nil []]) := by simp [VS]
end

/-! An object's cells with a pair more: any value; a list; a list of one; a text, a number or a flag; the first pair. -/
section
variable (f : List (List UInt8 × JV)) (key : List UInt8) (k n : Int) (b : List UInt8) (l : List JV) (g : List (List UInt8 × JV)) (s : St)
theorem add_gen (hf : f.length ≤ 1000000000) :
    call G 100 [.agg [.int .i64 5, .int .i64 0, .str [], .sl .no [], .sl .no (toPs f)], .str key, .agg [.int .i64 k, .int .i64 n, .str b, .sl .no (toVs l), .sl .no (toPs g)]] s =
      some (.agg [.int .i64 5, .int .i64 0, .str [], .sl .no [], .sl .no (toPs (f ++ [(key, .mk k n b l g)]))], s) := by
  have := add_spec (.mk 5 0 [] [] f) hf key (.mk k n b l g) s
  simpa only [toV, vc, addJ, JV.f, toVs] using this
theorem add_lst (hf : f.length ≤ 1000000000) :
    call G 100 [.agg [.int .i64 5, .int .i64 0, .str [], .sl .no [], .sl .no (toPs f)], .str key, .agg [.int .i64 4, .int .i64 0, .str [], .sl .no (toVs l), .sl .no []]] s =
      some (.agg [.int .i64 5, .int .i64 0, .str [], .sl .no [], .sl .no (toPs (f ++ [(key, lstJ l)]))], s) := add_gen f key 4 0 [] l [] s hf
theorem add_one (hf : f.length ≤ 1000000000) :
    call G 100 [.agg [.int .i64 5, .int .i64 0, .str [], .sl .no [], .sl .no (toPs f)], .str key, .agg [.int .i64 4, .int .i64 0, .str [], .sl .no [.agg [.int .i64 k, .int .i64 n, .str b, .sl .no (toVs l), .sl .no (toPs g)]], .sl .no []]] s =
      some (.agg [.int .i64 5, .int .i64 0, .str [], .sl .no [], .sl .no (toPs (f ++ [(key, lstJ [.mk k n b l g])]))], s) := add_gen f key 4 0 [] [.mk k n b l g] [] s hf
theorem add_obj (hf : f.length ≤ 1000000000) :
    call G 100 [.agg [.int .i64 5, .int .i64 0, .str [], .sl .no [], .sl .no (toPs f)], .str key, .agg [.int .i64 4, .int .i64 0, .str [], .sl .no [.agg [.int .i64 5, .int .i64 0, .str [], .sl .no [], .sl .no (toPs g)]], .sl .no []]] s =
      some (.agg [.int .i64 5, .int .i64 0, .str [], .sl .no [], .sl .no (toPs (f ++ [(key, lstJ [.mk 5 0 [] [] g])]))], s) := add_gen f key 4 0 [] [.mk 5 0 [] [] g] [] s hf
theorem add_scl (hf : f.length ≤ 1000000000) :
    call G 100 [.agg [.int .i64 5, .int .i64 0, .str [], .sl .no [], .sl .no (toPs f)], .str key, .agg [.int .i64 k, .int .i64 n, .str b, .sl .no [], .sl .no []]] s =
      some (.agg [.int .i64 5, .int .i64 0, .str [], .sl .no [], .sl .no (toPs (f ++ [(key, .mk k n b [] [])]))], s) := add_gen f key k n b [] [] s hf
theorem add_zero :
    call G 100 [.agg [.int .i64 0, .int .i64 0, .str [], .sl .no [], .sl .no []], .str key, .agg [.int .i64 k, .int .i64 n, .str b, .sl .no [], .sl .no []]] s =
      some (.agg [.int .i64 5, .int .i64 0, .str [], .sl .no [], .sl .no (toPs [(key, .mk k n b [] [])])], s) := by
  have := add_spec jNull (by simp [jNull, JV.f]) key (.mk k n b [] []) s
  simpa only [toV, vc, addJ, jNull, JV.f, toVs, toPs, List.nil_append] using this
end
theorem CL_old {A : List AObj} {a : Nat} {o : AObj} (h : A[a]? = some o) (J : List AObj) (B : List (Nat × Nat × TypeId)) (k nn : Int) (b : List UInt8) (acc : List JV) : (CL A J B k nn b acc).obs[a]? = some o := by
  simp only [CL]
  rw [List.getElem?_append_left (List.getElem?_eq_some_iff.1 h).1, h]
theorem CL_new (A J : List AObj) (B : List (Nat × Nat × TypeId)) (k nn : Int) (b : List UInt8) (acc : List JV) : (CL A J B k nn b acc).obs[A.length]? = some (.cells 46 [.int .i64 k, .int .i64 nn, .str b, .sl (ownOf B acc) (toVs acc), .sl .nil []]) := by simp [CL]

theorem f1R_len (p : Pay) : (f1R p).length ≤ 2 := by unfold f1R; split <;> simp; split <;> simp
theorem f2R_len (p : Pay) : (f2R p).length ≤ 1 := by unfold f2R; split <;> simp
theorem f3R_len (p : Pay) : (f3R p).length ≤ 1 := by unfold f3R; split <;> simp
theorem f4R_len (p : Pay) : (f4R p).length ≤ 1 := by unfold f4R; split <;> simp
theorem g1R_len (p : Pay) : (g1R p).length ≤ 3 := by unfold g1R; split <;> simp

theorem refValue_spec (p : Pay) (hp : p.lim) (s : St) : call G 28 [payV p] s = some (toV (payR p), s) := by
  obtain ⟨fi, ⟨k, nn, b, l, f⟩, er, pe, rc, id, st, od, en, fa, mo⟩ := p
  obtain ⟨h1, h2, h3, _, h4⟩ := hp
  simp only at h1 h2 h3 h4
  have her := fun s => refErrs_spec er h1 s
  have hid := fun s => refId_spec id h4.1 h4.2 s
  simp only [errsR, lstJ, idJ, toV, vc, toVs, toPs] at her hid
  refine call_out (F := af28) rfl rfl ?_
  obtain ⟨p, hpd⟩ : ∃ p : Pay, p = ⟨fi, .mk k nn b l f, er, pe, rc, id, st, od, en, fa, mo⟩ := ⟨_, rfl⟩
  rw [← hpd]
  have hpc : payC p = [.bool fi, .int .i64 k, .int .i64 nn, .str b, .sl .no (toVs l), .sl .no (toPs f), .sl .no (erVs er), .sl .no (pnVs pe), .bool rc, .int .i64 id, .bool st, .sl .no (sgVs od), .bool en, .bool fa, .bool mo] := by rw [hpd]; rfl
  simp [af28, af28b, hpc, fillL, evStore, putL, V.one, List.getElem?_append, List.set_append]
  have e0 : (⟨s.obs ++ [.cells 51 [.bool fi, .int .i64 k, .int .i64 nn, .str b, .sl .no (toVs l), .sl .no (toPs f), .sl .no (erVs er), .sl .no (pnVs pe), .bool rc, .int .i64 id, .bool st, .sl .no (sgVs od), .bool en, .bool fa, .bool mo], .cells 46 [.int .i64 0, .int .i64 0, .str [], .sl .nil [], .sl .nil []], .cells 46 [.int .i64 5, .int .i64 0, .str [], .sl .nil [], .sl .nil []]], s.bufs⟩ : St) = VS s [.bool fi, .int .i64 k, .int .i64 nn, .str b, .sl .no (toVs l), .sl .no (toPs f), .sl .no (erVs er), .sl .no (pnVs pe), .bool rc, .int .i64 id, .bool st, .sl .no (sgVs od), .bool en, .bool fa, .bool mo] .nil .nil [] [] [] := by simp [VS, toPs]
  rw [e0]
  -- the first
  refine Out.mono (Q := fun e env' s' => e = .norm ∧ env' 1 = .ptr s.obs.length 0 ∧ env' 2 = .ptr (s.obs.length + 1) 0 ∧ env' 3 = .ptr (s.obs.length + 2) 0 ∧ ∃ o1 o2 J X, s' = VS s [.bool fi, .int .i64 k, .int .i64 nn, .str b, .sl .no (toVs l), .sl .no (toPs f), .sl .no (erVs er), .sl .no (pnVs pe), .bool rc, .int .i64 id, .bool st, .sl .no (sgVs od), .bool en, .bool fa, .bool mo] o1 o2 (f1R p) J X) ?_ ?_
  · cases fi with
    | false =>
      simp [VS_pay0]
      exact ⟨.nil, .nil, [], [], by simp [f1R, hpd]⟩
    | true =>
      by_cases e : er = []
      · subst e
        simp [VS_pay0, VS_val0, add_gen, evStore, putL, V.one, erVs_length, vc]
        exact ⟨.no, .no, [], [], by simp [VS, List.set_append, f1R, hpd, kData]⟩
      · have e' : 0 < er.length := List.length_pos_iff.2 e
        simp [VS_pay0, VS_val0, add_gen, evStore, putL, V.one, erVs_length, vc, e', her, add_lst, VS_sv, VS_sp]
        exact ⟨.no, .no, [], [], by simp [VS, List.set_append, f1R, hpd, kData, kErrors, e, errsR]⟩
  rintro e env s1 ⟨rfl, g1, g2, g3, o1, o2, J, X, rfl⟩
  have l1 := f1R_len p
  generalize hF1 : f1R p = F1 at *
  have hF1l : F1.length ≤ 1000000000 := by omega
  -- who is announced
  simp [g1, VS_pay0, pnVs_length]
  refine Out.mono (Q := fun e env' s' => e = .norm ∧ env' 1 = .ptr s.obs.length 0 ∧ env' 2 = .ptr (s.obs.length + 1) 0 ∧ env' 3 = .ptr (s.obs.length + 2) 0 ∧ ∃ o1 o2 J X, s' = VS s [.bool fi, .int .i64 k, .int .i64 nn, .str b, .sl .no (toVs l), .sl .no (toPs f), .sl .no (erVs er), .sl .no (pnVs pe), .bool rc, .int .i64 id, .bool st, .sl .no (sgVs od), .bool en, .bool fa, .bool mo] o1 o2 (F1 ++ f2R p) J X) ?_ ?_
  · by_cases e : pe = []
    · simp [e, g1, g2, g3]
      exact ⟨o1, o2, J, X, by simp [f2R, hpd, e]⟩
    · have e' : 0 < pe.length := List.length_pos_iff.2 e
      simp [e', evStore, putL, V.one, fillL, List.getElem?_append_right, List.set_append_right]
      have hA := VS_pay0 s [.bool fi, .int .i64 k, .int .i64 nn, .str b, .sl .no (toVs l), .sl .no (toPs f), .sl .no (erVs er), .sl .no (pnVs pe), .bool rc, .int .i64 id, .bool st, .sl .no (sgVs od), .bool en, .bool fa, .bool mo] o1 o2 F1 J X
      have hA2 := VS_val0 s [.bool fi, .int .i64 k, .int .i64 nn, .str b, .sl .no (toVs l), .sl .no (toPs f), .sl .no (erVs er), .sl .no (pnVs pe), .bool rc, .int .i64 id, .bool st, .sl .no (sgVs od), .bool en, .bool fa, .bool mo] o1 o2 F1 J X
      have hB : (VS s [.bool fi, .int .i64 k, .int .i64 nn, .str b, .sl .no (toVs l), .sl .no (toPs f), .sl .no (erVs er), .sl .no (pnVs pe), .bool rc, .int .i64 id, .bool st, .sl .no (sgVs od), .bool en, .bool fa, .bool mo] o1 o2 F1 J X).bufs = s.bufs ++ X := rfl
      obtain ⟨A, hAd⟩ : ∃ A, (VS s [.bool fi, .int .i64 k, .int .i64 nn, .str b, .sl .no (toVs l), .sl .no (toPs f), .sl .no (erVs er), .sl .no (pnVs pe), .bool rc, .int .i64 id, .bool st, .sl .no (sgVs od), .bool en, .bool fa, .bool mo] o1 o2 F1 J X).obs = A := ⟨_, rfl⟩
      rw [hAd] at hA hA2 ⊢
      rw [hB]
      have e0 : (⟨A ++ [.cells 46 [.int .i64 4, .int .i64 0, .str [], .sl .nil [], .sl .nil []]], s.bufs ++ X⟩ : St) = CL A [] (s.bufs ++ X) 4 0 [] ((pe.take 0).map penR) := by simp [CL, ownOf, exOf, toVs]
      rw [e0]
      refine Out.mono (rpnLoop A s.obs.length [.bool fi, .int .i64 k, .int .i64 nn, .str b, .sl .no (toVs l), .sl .no (toPs f), .sl .no (erVs er), .sl .no (pnVs pe), .bool rc, .int .i64 id, .bool st, .sl .no (sgVs od), .bool en, .bool fa, .bool mo] (s.bufs ++ X) pe h2.1 h2.2 hA rfl pe.length 0 _ [] (by omega) (by omega) (by simp [g1]) (by simp) (by simp)) ?_
      rintro e env s' ⟨rfl, q1, q2, q3, q4, J', rfl⟩
      simp [g1, g2, g3] at q1 q2 q3 q4
      have c2 := CL_old hA2 J' (s.bufs ++ X) 4 0 [] (pe.map penR)
      have c3 := CL_new A J' (s.bufs ++ X) 4 0 [] (pe.map penR)
      simp [q1, q2, q3, q4, c2, c3, evStore, putL, V.one, add_lst, hF1l]
      exact ⟨.no, .no, J ++ .cells 46 [.int .i64 4, .int .i64 0, .str [], .sl (ownOf (s.bufs ++ X) (pe.map penR)) (toVs (pe.map penR)), .sl .nil []] :: J', X ++ exOf (80, 46) (pe.map penR), by simp [← hAd, CL, VS, List.set_append, f2R, hpd, e, kPending]⟩
  rintro e env s1 ⟨rfl, g1, g2, g3, o1, o2, J, X, rfl⟩
  have l2 := f2R_len p
  have hF2l : (F1 ++ f2R p).length ≤ 1000000000 := by rw [List.length_append]; omega
  generalize hF2 : F1 ++ f2R p = F2 at *
  -- a record
  simp [g1, VS_pay0]
  refine Out.mono (Q := fun e env' s' => e = .norm ∧ env' 1 = .ptr s.obs.length 0 ∧ env' 2 = .ptr (s.obs.length + 1) 0 ∧ env' 3 = .ptr (s.obs.length + 2) 0 ∧ ∃ o1 o2 J X, s' = VS s [.bool fi, .int .i64 k, .int .i64 nn, .str b, .sl .no (toVs l), .sl .no (toPs f), .sl .no (erVs er), .sl .no (pnVs pe), .bool rc, .int .i64 id, .bool st, .sl .no (sgVs od), .bool en, .bool fa, .bool mo] o1 o2 (F2 ++ f3R p) J X) ?_ ?_
  · cases rc with
    | false =>
      simp [g1, g2, g3]
      exact ⟨o1, o2, J, X, by simp [f3R, hpd]⟩
    | true =>
      simp [g1, VS_pay0, VS_pay, hid, add_zero, evStore, putL, V.one, fillL, List.getElem?_append_right, List.set_append_right]
      have hA := fun Y => VS_pay s [.bool fi, .int .i64 k, .int .i64 nn, .str b, .sl .no (toVs l), .sl .no (toPs f), .sl .no (erVs er), .sl .no (pnVs pe), .bool true, .int .i64 id, .bool st, .sl .no (sgVs od), .bool en, .bool fa, .bool mo] o1 o2 F2 J Y X
      have hA0 := VS_pay0 s [.bool fi, .int .i64 k, .int .i64 nn, .str b, .sl .no (toVs l), .sl .no (toPs f), .sl .no (erVs er), .sl .no (pnVs pe), .bool true, .int .i64 id, .bool st, .sl .no (sgVs od), .bool en, .bool fa, .bool mo] o1 o2 F2 J X
      have hA2 := fun Y => VS_val s [.bool fi, .int .i64 k, .int .i64 nn, .str b, .sl .no (toVs l), .sl .no (toPs f), .sl .no (erVs er), .sl .no (pnVs pe), .bool true, .int .i64 id, .bool st, .sl .no (sgVs od), .bool en, .bool fa, .bool mo] o1 o2 F2 J Y X
      have hB : (VS s [.bool fi, .int .i64 k, .int .i64 nn, .str b, .sl .no (toVs l), .sl .no (toPs f), .sl .no (erVs er), .sl .no (pnVs pe), .bool true, .int .i64 id, .bool st, .sl .no (sgVs od), .bool en, .bool fa, .bool mo] o1 o2 F2 J X).bufs = s.bufs ++ X := rfl
      obtain ⟨A, hAd⟩ : ∃ A, (VS s [.bool fi, .int .i64 k, .int .i64 nn, .str b, .sl .no (toVs l), .sl .no (toPs f), .sl .no (erVs er), .sl .no (pnVs pe), .bool true, .int .i64 id, .bool st, .sl .no (sgVs od), .bool en, .bool fa, .bool mo] o1 o2 F2 J X).obs = A := ⟨_, rfl⟩
      rw [hAd] at hA hA0 hA2 ⊢
      rw [hB]
      have hAs : ∀ Y x, ((A ++ Y).set A.length x) = A ++ Y.set 0 x := fun Y x => by simp
      refine Out.mono (Q := fun e env' s' => e = .norm ∧ env' 1 = .ptr s.obs.length 0 ∧ env' 2 = .ptr (s.obs.length + 1) 0 ∧ env' 3 = .ptr (s.obs.length + 2) 0 ∧ env' 8 = .ptr A.length 0 ∧ ∃ J1 X1, s' = ⟨A ++ .cells 46 [.int .i64 5, .int .i64 0, .str [], .sl .no [], .sl .no (toPs (g1R p))] :: J1, s.bufs ++ X1⟩) ?_ ?_
      · cases st with
        | true =>
          simp [g1, g2, g3, ↓hA, add_one, evStore, putL, V.one, fillL, fillS, List.getElem?_append_right, List.set_append_right]
          simp [g1R, hpd, kItems, kId, idJ]
        | false =>
          obtain ⟨c8, hc8⟩ : ∃ c, (.cells 46 [.int .i64 5, .int .i64 0, .str [], .sl .no [], .sl .no (toPs [([105, 100], JV.mk 3 0 (Lib.itoa id) [] [])])] : AObj) = c := ⟨_, rfl⟩
          simp [g1, g2, g3, ↓hA, evStore, putL, V.one, fillL, List.getElem?_append_right, List.set_append_right]
          have e0 : (⟨A ++ [c8, .cells 46 [.int .i64 4, .int .i64 0, .str [], .sl .nil [], .sl .nil []]], s.bufs ++ X⟩ : St) = CL (A ++ [c8]) [] (s.bufs ++ X) 4 0 [] ((od.take 0).map strJ) := by simp [CL, ownOf, exOf, toVs]
          rw [hc8, e0]
          refine Out.mono (rodLoop (A ++ [c8]) s.obs.length [.bool fi, .int .i64 k, .int .i64 nn, .str b, .sl .no (toVs l), .sl .no (toPs f), .sl .no (erVs er), .sl .no (pnVs pe), .bool true, .int .i64 id, .bool false, .sl .no (sgVs od), .bool en, .bool fa, .bool mo] (s.bufs ++ X) od h3.1 (hA _) rfl od.length 0 _ [] (by omega) (by omega) (by simp [g1]) (by simp) (by simp)) ?_
          rintro e env s' ⟨rfl, q1, q2, q3, q4, q5, J', rfl⟩
          simp [g1, g2, g3] at q1 q2 q3 q4 q5
          have c1 := CL_old (hA [c8]) J' (s.bufs ++ X) 4 0 [] (od.map strJ)
          have c2 := CL_old (A := A ++ [c8]) (a := A.length) (o := c8) (by simp) J' (s.bufs ++ X) 4 0 [] (od.map strJ)
          have c3 := CL_new (A ++ [c8]) J' (s.bufs ++ X) 4 0 [] (od.map strJ)
          rw [List.length_append] at c3
          simp only [List.length_cons, List.length_nil, Nat.zero_add] at c3
          subst hc8
          simp [q1, q2, q3, q4, q5, c1, c2, c3, evStore, putL, V.one, add_gen, add_lst]
          refine ⟨⟨.cells 46 [.int .i64 4, .int .i64 0, .str [], .sl (ownOf (s.bufs ++ X) (od.map strJ)) (toVs (od.map strJ)), .sl .nil []] :: J', ?_⟩, ⟨X ++ exOf (80, 46) (od.map strJ), ?_⟩⟩
          · simp [CL, List.set_append, g1R, hpd, kData, kOrder, kId, idJ]
          · simp [CL]
      rintro e env s2 ⟨rfl, g1, g2, g3, g8, J1, X1, rfl⟩
      have l3 := g1R_len p
      have hGl : (g1R p).length ≤ 1000000000 := by omega
      have h3R : f3R p = [(kInc, lstJ [.mk 5 0 [] [] (g1R p ++ (if er = [] then [] else [(kErrors, errsR er)]))])] := by
        unfold f3R recR
        generalize g1R p = q
        simp [hpd]
      generalize hG : g1R p = GG at *
      by_cases e : er = []
      · simp [g1, g2, g3, g8, ↓hA, ↓hA2, e, erVs_length, evStore, putL, V.one, fillL, fillS, add_obj, hF2l, List.getElem?_append_right]
        exact ⟨.no, .no, J ++ .cells 46 [.int .i64 5, .int .i64 0, .str [], .sl .no [], .sl .no (toPs GG)] :: J1, X1, by simp [← hAd, VS, List.set_append, h3R, e, kInc]⟩
      · have e' : 0 < er.length := List.length_pos_iff.2 e
        have hAs : ∀ x Y, (A ++ x :: Y).set A.length (.cells 46 [.int .i64 5, .int .i64 0, .str [], .sl .no [], .sl .no (toPs (GG ++ [([101, 114, 114, 111, 114, 115], lstJ (er.map errR))]))]) = A ++ .cells 46 [.int .i64 5, .int .i64 0, .str [], .sl .no [], .sl .no (toPs (GG ++ [([101, 114, 114, 111, 114, 115], lstJ (er.map errR))]))] :: Y := fun x Y => by simp
        simp [g1, g2, g3, g8, ↓hA, ↓hA2, e', her, erVs_length, evStore, putL, V.one, fillL, fillS, add_obj, add_lst, hF2l, hGl, hAs, List.getElem?_append_right]
        exact ⟨.no, .no, J ++ .cells 46 [.int .i64 5, .int .i64 0, .str [], .sl .no [], .sl .no (toPs (GG ++ [([101, 114, 114, 111, 114, 115], lstJ (er.map errR))]))] :: J1, X1, by simp [← hAd, VS, List.set_append, h3R, e, kInc, kErrors, errsR]⟩
  rintro e env s1 ⟨rfl, g1, g2, g3, o1, o2, J, X, rfl⟩
  have l3 := f3R_len p
  have hF3l : (F2 ++ f3R p).length ≤ 1000000000 := by
    have : F2.length ≤ 3 := by rw [← hF2, List.length_append]; omega
    rw [List.length_append]; omega
  have hF3m : (F2 ++ f3R p).length ≤ 4 := by
    have : F2.length ≤ 3 := by rw [← hF2, List.length_append]; omega
    rw [List.length_append]; omega
  generalize hF3 : F2 ++ f3R p = F3 at *
  -- an end
  simp [g1, VS_pay0]
  refine Out.mono (Q := fun e env' s' => e = .norm ∧ env' 1 = .ptr s.obs.length 0 ∧ env' 2 = .ptr (s.obs.length + 1) 0 ∧ env' 3 = .ptr (s.obs.length + 2) 0 ∧ ∃ o1 o2 J X, s' = VS s [.bool fi, .int .i64 k, .int .i64 nn, .str b, .sl .no (toVs l), .sl .no (toPs f), .sl .no (erVs er), .sl .no (pnVs pe), .bool rc, .int .i64 id, .bool st, .sl .no (sgVs od), .bool en, .bool fa, .bool mo] o1 o2 (F3 ++ f4R p) J X) ?_ ?_
  · cases en with
    | false =>
      simp [g1, g2, g3]
      exact ⟨o1, o2, J, X, by simp [f4R, hpd]⟩
    | true =>
      cases fa with
      | false =>
        simp [g1, g2, g3, VS_pay0, VS_pay, VS_val, hid, add_zero, add_obj, hF3l, evStore, putL, V.one, fillL, fillS, List.getElem?_append_right, List.set_append_right]
        exact ⟨.no, .no, J ++ [.cells 46 [.int .i64 5, .int .i64 0, .str [], .sl .no [], .sl .no (toPs [([105, 100], JV.mk 3 0 (Lib.itoa id) [] [])])]], X, by simp [VS, List.set_append, f4R, endR, hpd, kComp, kId, idJ]⟩
      | true =>
        simp [g1, g2, g3, VS_pay0, VS_pay, VS_val, hid, her, add_zero, add_obj, add_lst, hF3l, evStore, putL, V.one, fillL, fillS, List.getElem?_append_right, List.set_append_right]
        exact ⟨.no, .no, J ++ [.cells 46 [.int .i64 5, .int .i64 0, .str [], .sl .no [], .sl .no (toPs [([105, 100], JV.mk 3 0 (Lib.itoa id) [] []), ([101, 114, 114, 111, 114, 115], lstJ (er.map errR))])]], X, by simp [VS, List.set_append, f4R, endR, hpd, kComp, kId, idJ, kErrors, errsR]⟩
  rintro e env s1 ⟨rfl, g1, g2, g3, o1, o2, J, X, rfl⟩
  have l4 := f4R_len p
  have hF4l : (F3 ++ f4R p).length ≤ 1000000000 := by rw [List.length_append]; omega
  have hR : payR p = .mk 5 0 [] [] (F3 ++ f4R p ++ [(kNext, flagJ mo)]) := by
    rw [← hF3, ← hF2, ← hF1]; simp [payR, hpd]
  rw [hR]
  generalize hF4 : F3 ++ f4R p = F4 at *
  cases mo with
  | false =>
    simp [g1, g2, g3, VS_pay0, VS_pay, VS_val, VS_res, VS_er, VS_et, VS_eb, add_scl, hF4l, evStore, putL, V.one, fillL, fillS, List.getElem?_append_right, List.set_append_right, vc, toVs, flagJ, kNext]
  | true =>
    simp [g1, g2, g3, VS_pay0, VS_pay, VS_val, VS_res, VS_er, VS_et, VS_eb, add_scl, hF4l, evStore, putL, V.one, fillL, fillS, List.getElem?_append_right, List.set_append_right, vc, toVs, flagJ, kNext]

theorem rr0Loop (s : St) (a : Nat) (pc : List V) (L : List (List UInt8)) (hL : L.length ≤ 1000000000) (hx : ∀ x ∈ L, x.length ≤ 9223372036854775807) (ha : s.obs[a]? = some (.cells 51 pc)) (hpc : pc[11]? = some (.sl .no (sgVs L))) :
    ∀ (m i : Nat) (env : Env), L.length - i = m → i ≤ L.length → env 1 = .ptr a 0 → env 3 = .int .i64 i →
      Out (evC G (.loop false af23l0) env s) (fun e env' s' => s' = s ∧ (((L.drop i).all rightV = true ∧ e = .exit 0 ∧ env' 1 = .ptr a 0) ∨ ((L.drop i).all rightV = false ∧ e = .ret ∧ env' 2 = .bool false))) := by
  intro m
  induction m with
  | zero =>
    intro i env hm hi g1 g3
    have : i = L.length := by omega
    subst this
    refine Out_loop G false _ _ af23l0.eq_1 _ _ _ ?_
    simp [g1, g3, ha, hpc, sgVs_length]
  | succ m ihm =>
    intro i env hm hi g1 g3
    have hlt : i < L.length := by omega
    have hdr := List.drop_eq_getElem_cons hlt
    have hwi : IntKind.i64.wrap ((i : Int) + 1) = ((i + 1 : Nat) : Int) := by rw [wrap_in (by omega) (by omega)]; omega
    have hget : (sgVs L)[((i : Nat) : Int).toNat]? = some (.str L[i]) := by rw [Int.toNat_natCast, sgVs_get, List.getElem?_eq_getElem hlt]; rfl
    have ht := fun s => refRight_spec L[i] (hx L[i] (List.getElem_mem hlt)) s
    have hnx := fun env => ihm (i + 1) env (by omega) (by omega)
    rw [hdr, List.all_cons]
    generalize (L.drop (i + 1)).all rightV = tl at *
    generalize L[i] = p at *
    refine Out_loop G false _ _ af23l0.eq_1 _ _ _ ?_
    cases e : rightV p with
    | false => simp [g1, g3, ha, hpc, sgVs_length, hlt, ↓hget, ht, e]
    | true =>
      simp [g1, g3, ha, hpc, sgVs_length, hlt, ↓hget, ht, e, hwi]
      exact hnx _ (by simp [g1]) (by simp)

theorem rr1Loop (s : St) (a : Nat) (pc : List V) (L : List PErr) (hL : L.length ≤ 1000000000) (hx : ∀ x ∈ L, x.lim) (ha : s.obs[a]? = some (.cells 51 pc)) (hpc : pc[6]? = some (.sl .no (erVs L))) :
    ∀ (m i : Nat) (env : Env), L.length - i = m → i ≤ L.length → env 1 = .ptr a 0 → env 4 = .int .i64 i →
      Out (evC G (.loop false af23l1) env s) (fun e env' s' => s' = s ∧ (((L.drop i).all PErr.okB = true ∧ e = .exit 2 ∧ env' 1 = .ptr a 0) ∨ ((L.drop i).all PErr.okB = false ∧ e = .ret ∧ env' 2 = .bool false))) := by
  intro m
  induction m with
  | zero =>
    intro i env hm hi g1 g3
    have : i = L.length := by omega
    subst this
    refine Out_loop G false _ _ af23l1.eq_1 _ _ _ ?_
    simp [g1, g3, ha, hpc, erVs_length]
  | succ m ihm =>
    intro i env hm hi g1 g3
    have hlt : i < L.length := by omega
    have hdr := List.drop_eq_getElem_cons hlt
    have hwi : IntKind.i64.wrap ((i : Int) + 1) = ((i + 1 : Nat) : Int) := by rw [wrap_in (by omega) (by omega)]; omega
    have hget : (erVs L)[((i : Nat) : Int).toNat]? = some (erV L[i]) := by rw [Int.toNat_natCast, erVs_get, List.getElem?_eq_getElem hlt]; rfl
    obtain ⟨l1, l2⟩ := hx L[i] (List.getElem_mem hlt)
    have hp := fun s => refPath_spec L[i].path l1 l2 s
    have hnx := fun env => ihm (i + 1) env (by omega) (by omega)
    rw [hdr, List.all_cons]
    generalize (L.drop (i + 1)).all PErr.okB = tl at *
    have hB : L[i].okB = (decide (1 ≤ L[i].e) && decide (L[i].e ≤ 65535) && pathR L[i].path) := rfl
    rw [hB]
    generalize pathR L[i].path = bp at *
    generalize L[i] = p at *
    obtain ⟨pa, ec⟩ := p
    simp only [erV] at hget hp
    simp only
    refine Out_loop G false _ _ af23l1.eq_1 _ _ _ ?_
    by_cases e1 : ec < 1
    · have e1' : ¬ 1 ≤ ec := by omega
      simp [g1, g3, ha, hpc, erVs_length, hlt, ↓hget, hp, e1, e1']
    · have e1' : 1 ≤ ec := by omega
      by_cases e2 : 65535 < ec
      · have e2' : ¬ ec ≤ 65535 := by omega
        simp [g1, g3, ha, hpc, erVs_length, hlt, ↓hget, hp, e1, e1', e2, e2']
      · have e2' : ec ≤ 65535 := by omega
        cases bp with
        | false => simp [g1, g3, ha, hpc, erVs_length, hlt, ↓hget, hp, e1, e1', e2, e2']
        | true =>
          simp [g1, g3, ha, hpc, erVs_length, hlt, ↓hget, hp, e1, e1', e2, e2', hwi]
          exact hnx _ (by simp [g1]) (by simp)

theorem rr2Loop (O : List AObj) (B : List (Nat × Nat × TypeId)) (a : Nat) (pc : List V) (L : List PPen) (hL : L.length ≤ 1000000000) (hx : ∀ x ∈ L, x.lim) (ha : ∀ Y, (O ++ Y)[a]? = some (.cells 51 pc)) (hpc : pc[7]? = some (.sl .no (pnVs L))) :
    ∀ (m i : Nat) (env : Env) (J : List AObj), L.length - i = m → i ≤ L.length → env 1 = .ptr a 0 → env 5 = .int .i64 i →
      Out (evC G (.loop false af23l2) env ⟨O ++ J, B⟩) (fun e env' s' => (∃ J', s' = ⟨O ++ J', B⟩) ∧ (((L.drop i).all PPen.okB = true ∧ e = .exit 4 ∧ env' 1 = .ptr a 0) ∨ ((L.drop i).all PPen.okB = false ∧ e = .ret ∧ env' 2 = .bool false))) := by
  intro m
  induction m with
  | zero =>
    intro i env J hm hi g1 g3
    have : i = L.length := by omega
    subst this
    refine Out_loop G false _ _ af23l2.eq_1 _ _ _ ?_
    simp [g1, g3, ha, hpc, pnVs_length]
  | succ m ihm =>
    intro i env J hm hi g1 g3
    have hlt : i < L.length := by omega
    have hdr := List.drop_eq_getElem_cons hlt
    have hwi : IntKind.i64.wrap ((i : Int) + 1) = ((i + 1 : Nat) : Int) := by rw [wrap_in (by omega) (by omega)]; omega
    have hget : (pnVs L)[((i : Nat) : Int).toNat]? = some (pnV L[i]) := by rw [Int.toNat_natCast, pnVs_get, List.getElem?_eq_getElem hlt]; rfl
    obtain ⟨_, l1, l2, l3⟩ := hx L[i] (List.getElem_mem hlt)
    have hp := fun s => refPath_spec L[i].path l1 l2 s
    have ht := fun s => refRight_spec L[i].label l3 s
    have hnx := fun env J => ihm (i + 1) env J (by omega) (by omega)
    rw [hdr, List.all_cons]
    generalize (L.drop (i + 1)).all PPen.okB = tl at *
    have hB : L[i].okB = (decide (0 ≤ L[i].id ∧ L[i].id ≤ 9007199254740991) && pathR L[i].path && rightV L[i].label && (decide (L[i].label = []) || L[i].named)) := rfl
    rw [hB]
    generalize pathR L[i].path = bp at *
    generalize rightV L[i].label = bl at *
    generalize L[i] = p at *
    obtain ⟨pid, pa, la, na⟩ := p
    simp only [pnV] at hget hp ht
    simp only
    refine Out_loop G false _ _ af23l2.eq_1 _ _ _ ?_
    by_cases e1 : pid < 0
    · have e1' : ¬ 0 ≤ pid := by omega
      simp [g1, g3, ha, hpc, pnVs_length, hlt, ↓hget, evStore, fillL, putL, V.one, List.getElem?_append_right, List.set_append_right, e1, e1']
    · have e1' : 0 ≤ pid := by omega
      by_cases e2 : 9007199254740991 < pid
      · have e2' : ¬ pid ≤ 9007199254740991 := by omega
        simp [g1, g3, ha, hpc, pnVs_length, hlt, ↓hget, evStore, fillL, putL, V.one, List.getElem?_append_right, List.set_append_right, e1, e1', e2, e2']
      · have e2' : pid ≤ 9007199254740991 := by omega
        cases bp with
        | false =>
          simp [g1, g3, ha, hpc, pnVs_length, hlt, ↓hget, hp, evStore, fillL, putL, V.one, List.getElem?_append_right, List.set_append_right, e1, e1', e2, e2']
        | true =>
          cases bl with
          | false =>
            simp [g1, g3, ha, hpc, pnVs_length, hlt, ↓hget, hp, ht, evStore, fillL, putL, V.one, List.getElem?_append_right, List.set_append_right, e1, e1', e2, e2']
          | true =>
            by_cases e3 : la = []
            · subst e3
              simp [g1, g3, ha, hpc, pnVs_length, hlt, ↓hget, hp, ht, evStore, fillL, putL, V.one, List.getElem?_append_right, List.set_append_right, e1, e1', e2, e2', hwi]
              exact hnx _ _ (by simp [g1]) (by simp)
            · cases na with
              | false =>
                simp [g1, g3, ha, hpc, pnVs_length, hlt, ↓hget, hp, ht, evStore, fillL, putL, V.one, List.getElem?_append_right, List.set_append_right, e1, e1', e2, e2', e3]
              | true =>
                simp [g1, g3, ha, hpc, pnVs_length, hlt, ↓hget, hp, ht, evStore, fillL, putL, V.one, List.getElem?_append_right, List.set_append_right, e1, e1', e2, e2', e3, hwi]
                exact hnx _ _ (by simp [g1]) (by simp)

/-- Does what a payload has go together? (The reference.) -/
def togB (p : Pay) : Bool :=
  if p.first = true then decide (p.id = 0) && !p.rcd && !p.stream && decide (p.order = []) && !p.ended && !p.failed
  else if p.rcd = true then !p.failed && (p.stream || decide (p.data.kind = 5)) && (!p.stream || decide (p.order = []))
  else p.ended && p.failed && !p.stream && decide (p.order = []) && decide (p.pend = []) && decide (p.data.kind = 0)
theorem tog_first (k nn : Int) (b : List UInt8) (l : List JV) (f : List (List UInt8 × JV)) (er : List PErr) (pe : List PPen) (rc : Bool) (id : Int) (st : Bool) (od : List (List UInt8)) (en fa mo : Bool) (s : St) : call G 86 [payV ⟨true, .mk k nn b l f, er, pe, rc, id, st, od, en, fa, mo⟩] s = some (.bool (togB ⟨true, .mk k nn b l f, er, pe, rc, id, st, od, en, fa, mo⟩), s) := by
  refine call_out (F := af86) rfl rfl ?_
  by_cases e1 : id = 0
  · cases rc with
    | true =>
      simp [af86, af86b, payC, vc, sgVs_length, pnVs_length, togB, JV.kind, e1]
    | false =>
      cases st with
      | true =>
        simp [af86, af86b, payC, vc, sgVs_length, pnVs_length, togB, JV.kind, e1]
      | false =>
        by_cases e2 : od = []
        · cases en with
          | true =>
            simp [af86, af86b, payC, vc, sgVs_length, pnVs_length, togB, JV.kind, e1, e2]
          | false =>
            cases fa with
            | true =>
              simp [af86, af86b, payC, vc, sgVs_length, pnVs_length, togB, JV.kind, e1, e2]
            | false =>
              simp [af86, af86b, payC, vc, sgVs_length, pnVs_length, togB, JV.kind, e1, e2]
        · simp [af86, af86b, payC, vc, sgVs_length, pnVs_length, togB, JV.kind, e1, e2]
  · simp [af86, af86b, payC, vc, sgVs_length, pnVs_length, togB, JV.kind, e1]

theorem tog_rec (k nn : Int) (b : List UInt8) (l : List JV) (f : List (List UInt8 × JV)) (er : List PErr) (pe : List PPen) (id : Int) (st : Bool) (od : List (List UInt8)) (en fa mo : Bool) (s : St) : call G 86 [payV ⟨false, .mk k nn b l f, er, pe, true, id, st, od, en, fa, mo⟩] s = some (.bool (togB ⟨false, .mk k nn b l f, er, pe, true, id, st, od, en, fa, mo⟩), s) := by
  refine call_out (F := af86) rfl rfl ?_
  cases fa with
  | true => simp [af86, af86b, payC, vc, sgVs_length, pnVs_length, togB, JV.kind]
  | false =>
    cases st with
    | true => by_cases e2 : od = [] <;> simp [af86, af86b, payC, vc, sgVs_length, pnVs_length, togB, JV.kind, e2]
    | false => by_cases e5 : k = 5 <;> simp [af86, af86b, payC, vc, sgVs_length, pnVs_length, togB, JV.kind, e5]

theorem tog_end (k nn : Int) (b : List UInt8) (l : List JV) (f : List (List UInt8 × JV)) (er : List PErr) (pe : List PPen) (id : Int) (st : Bool) (od : List (List UInt8)) (en fa mo : Bool) (s : St) : call G 86 [payV ⟨false, .mk k nn b l f, er, pe, false, id, st, od, en, fa, mo⟩] s = some (.bool (togB ⟨false, .mk k nn b l f, er, pe, false, id, st, od, en, fa, mo⟩), s) := by
  refine call_out (F := af86) rfl rfl ?_
  cases en with
  | true =>
    cases fa with
    | true =>
      cases st with
      | true =>
        simp [af86, af86b, payC, vc, sgVs_length, pnVs_length, togB, JV.kind]
      | false =>
        by_cases e2 : od = []
        · by_cases e1 : pe = []
          · by_cases e5 : k = 0
            · simp [af86, af86b, payC, vc, sgVs_length, pnVs_length, togB, JV.kind, e2, e1, e5]
            · simp [af86, af86b, payC, vc, sgVs_length, pnVs_length, togB, JV.kind, e2, e1, e5]
          · simp [af86, af86b, payC, vc, sgVs_length, pnVs_length, togB, JV.kind, e2, e1]
        · simp [af86, af86b, payC, vc, sgVs_length, pnVs_length, togB, JV.kind, e2]
    | false =>
      simp [af86, af86b, payC, vc, sgVs_length, pnVs_length, togB, JV.kind]
  | false =>
    simp [af86, af86b, payC, vc, sgVs_length, pnVs_length, togB, JV.kind]

theorem tog_spec (p : Pay) (s : St) : call G 86 [payV p] s = some (.bool (togB p), s) := by
  obtain ⟨fi, ⟨k, nn, b, l, f⟩, er, pe, rc, id, st, od, en, fa, mo⟩ := p
  cases fi with
  | true => exact tog_first k nn b l f er pe rc id st od en fa mo s
  | false => cases rc with
    | true => exact tog_rec k nn b l f er pe id st od en fa mo s
    | false => exact tog_end k nn b l f er pe id st od en fa mo s

def rightR (p : Pay) : Bool := decide (0 ≤ p.id ∧ p.id ≤ 9007199254740991) && treeV p.data 12 && togB p && p.order.all rightV && p.errs.all PErr.okB && p.pend.all PPen.okB && treeV (payR p) 12
theorem refRightP_spec (p : Pay) (hp : p.lim) (hfine : (payR p).ok) (s : St) : call G 23 [payV p] s = some (.bool (rightR p), s) := by
  have h1 := fun s => rightT_spec p.data hp.data.1 s
  have h2 := fun s => tog_spec p s
  have h3 := fun s => refValue_spec p hp s
  have h4 := fun s => rightT_spec (payR p) hfine s
  have hl := hp
  unfold rightR
  refine call_out (F := af23) rfl rfl ?_
  by_cases e1 : p.id < 0
  · have e1' : ¬ (0 ≤ p.id ∧ p.id ≤ 9007199254740991) := by omega
    clear h1 h2 h3 h4 hp hl hfine
    obtain ⟨fi, ⟨k, nn, b, l, f⟩, er, pe, rc, id, st, od, en, fa, mo⟩ := p
    simp only at e1 e1'
    simp [af23, af23b, payC, vc, e1]
    intro h; omega
  by_cases e2 : 9007199254740991 < p.id
  · have e2' : ¬ (0 ≤ p.id ∧ p.id ≤ 9007199254740991) := by omega
    clear h1 h2 h3 h4 hp hl hfine
    obtain ⟨fi, ⟨k, nn, b, l, f⟩, er, pe, rc, id, st, od, en, fa, mo⟩ := p
    simp only at e1 e2 e2'
    simp [af23, af23b, payC, vc, e1, e2]
    intro h; omega
  have e3 : decide (0 ≤ p.id ∧ p.id ≤ 9007199254740991) = true := by simp; omega
  rw [e3, Bool.true_and]
  clear e3
  generalize treeV p.data 12 = b2 at *
  generalize togB p = b3 at *
  generalize treeV (payR p) 12 = b6 at *
  generalize payR p = R at *
  obtain ⟨k2, n2, b2', l2, f2⟩ := R
  clear hfine hp
  obtain ⟨fi, ⟨k, nn, b, l, f⟩, er, pe, rc, id, st, od, en, fa, mo⟩ := p
  obtain ⟨hE, hP, hO, _, _⟩ := hl
  simp only at e1 e2 hE hP hO ⊢
  simp only [payV, payC, toV, vc, List.cons_append, List.nil_append] at h1 h2 h3 h4
  cases b2 with
  | false => simp [af23, af23b, payC, vc, e1, e2, h1]
  | true => cases b3 with
    | false => simp [af23, af23b, payC, vc, e1, e2, h1, h2]
    | true =>
      simp [af23, af23b, payC, vc, e1, e2, h1, h2]
      obtain ⟨S, hS⟩ : ∃ S : St, S = ⟨s.obs ++ [.cells 51 [.bool fi, .int .i64 k, .int .i64 nn, .str b, .sl .no (toVs l), .sl .no (toPs f), .sl .no (erVs er), .sl .no (pnVs pe), .bool rc, .int .i64 id, .bool st, .sl .no (sgVs od), .bool en, .bool fa, .bool mo]], s.bufs⟩ := ⟨_, rfl⟩
      have hSa : ∀ Y, (S.obs ++ Y)[s.obs.length]? = some (.cells 51 [.bool fi, .int .i64 k, .int .i64 nn, .str b, .sl .no (toVs l), .sl .no (toPs f), .sl .no (erVs er), .sl .no (pnVs pe), .bool rc, .int .i64 id, .bool st, .sl .no (sgVs od), .bool en, .bool fa, .bool mo]) := by intro Y; rw [hS]; simp
      have hSa0 : S.obs[s.obs.length]? = some (.cells 51 [.bool fi, .int .i64 k, .int .i64 nn, .str b, .sl .no (toVs l), .sl .no (toPs f), .sl .no (erVs er), .sl .no (pnVs pe), .bool rc, .int .i64 id, .bool st, .sl .no (sgVs od), .bool en, .bool fa, .bool mo]) := by rw [hS]; simp
      have hSt : ∀ Y, (S.obs ++ Y).take s.obs.length = s.obs := by intro Y; rw [hS]; simp
      have hSt0 : S.obs.take s.obs.length = s.obs := by rw [hS]; simp
      have hSb : S.bufs = s.bufs := by rw [hS]
      rw [← hS]
      refine Out.mono (rr0Loop S s.obs.length [.bool fi, .int .i64 k, .int .i64 nn, .str b, .sl .no (toVs l), .sl .no (toPs f), .sl .no (erVs er), .sl .no (pnVs pe), .bool rc, .int .i64 id, .bool st, .sl .no (sgVs od), .bool en, .bool fa, .bool mo] od hO.1 hO.2 hSa0 rfl od.length 0 _ (by omega) (by omega) (by simp) (by simp)) ?_
      rintro e env s1 ⟨rfl, ⟨q, rfl, q1⟩ | ⟨q, rfl, q1⟩⟩
      · rw [List.drop_zero] at q
        rw [q]
        simp
        refine Out.mono (rr1Loop _ s.obs.length [.bool fi, .int .i64 k, .int .i64 nn, .str b, .sl .no (toVs l), .sl .no (toPs f), .sl .no (erVs er), .sl .no (pnVs pe), .bool rc, .int .i64 id, .bool st, .sl .no (sgVs od), .bool en, .bool fa, .bool mo] er hE.1 hE.2 hSa0 rfl er.length 0 _ (by omega) (by omega) (by simp [q1]) (by simp)) ?_
        rintro e env s1 ⟨rfl, ⟨q, rfl, q1⟩ | ⟨q, rfl, q1⟩⟩
        · rw [List.drop_zero] at q
          rw [q]
          simp
          have e0 : s1 = ⟨s1.obs ++ [], s1.bufs⟩ := by simp
          rw [e0]
          refine Out.mono (rr2Loop s1.obs s1.bufs s.obs.length [.bool fi, .int .i64 k, .int .i64 nn, .str b, .sl .no (toVs l), .sl .no (toPs f), .sl .no (erVs er), .sl .no (pnVs pe), .bool rc, .int .i64 id, .bool st, .sl .no (sgVs od), .bool en, .bool fa, .bool mo] pe hP.1 hP.2 hSa rfl pe.length 0 _ [] (by omega) (by omega) (by simp [q1]) (by simp)) ?_
          rintro e env s2 ⟨⟨J, rfl⟩, ⟨q, rfl, q1⟩ | ⟨q, rfl, q1⟩⟩
          · rw [List.drop_zero] at q
            rw [q]
            simp [q1, hSa, h3, h4, hSt, hSb]
          · rw [List.drop_zero] at q
            rw [q]
            simp [q1, hSt, hSb]
        · rw [List.drop_zero] at q
          rw [q]
          simp [q1, hSt0, hSb]
      · rw [List.drop_zero] at q
        rw [q]
        simp [q1, hSt0, hSb]

theorem samePathLoop (L L' : List PStep) (hL : L.length ≤ 1000000000) (hLL : L.length = L'.length) (s : St) :
    ∀ (m i : Nat) (env : Env), L.length - i = m → i ≤ L.length → env 0 = .sl .no (pSs L) → env 1 = .sl .no (pSs L') → env 5 = .int .i64 i →
      Out (evC G (.loop false af106l0) env s) (fun e env' s' => s' = s ∧ ((decide (L.drop i = L'.drop i) = true ∧ e = .exit 0) ∨ (decide (L.drop i = L'.drop i) = false ∧ e = .ret ∧ env' 4 = .bool false))) := by
  intro m
  induction m with
  | zero =>
    intro i env hm hi g0 g1 g5
    have : i = L.length := by omega
    subst this
    have e1 : L'.drop L.length = [] := by rw [hLL, List.drop_length]
    refine Out_loop G false _ _ af106l0.eq_1 _ _ _ ?_
    simp [g0, g5, pSs_length, e1]
  | succ m ihm =>
    intro i env hm hi g0 g1 g5
    have hlt : i < L.length := by omega
    have hlt' : i < L'.length := by omega
    have hwi : IntKind.i64.wrap ((i : Int) + 1) = ((i + 1 : Nat) : Int) := by rw [wrap_in (by omega) (by omega)]; omega
    have hget : (pSs L)[((i : Nat) : Int).toNat]? = some (pS L[i]) := by rw [Int.toNat_natCast, pSs_get, List.getElem?_eq_getElem hlt]; rfl
    have hget' : (pSs L')[((i : Nat) : Int).toNat]? = some (pS L'[i]) := by rw [Int.toNat_natCast, pSs_get, List.getElem?_eq_getElem hlt']; rfl
    have hnx := fun env => ihm (i + 1) env (by omega) (by omega)
    have hd : decide (L.drop i = L'.drop i) = (decide (L[i] = L'[i]) && decide (L.drop (i + 1) = L'.drop (i + 1))) := by
      rw [List.drop_eq_getElem_cons hlt, List.drop_eq_getElem_cons hlt']
      simp only [List.cons.injEq, Bool.decide_and]
    rw [hd]
    generalize decide (L.drop (i + 1) = L'.drop (i + 1)) = tl at *
    generalize L[i] = p at *
    generalize L'[i] = q at *
    refine Out_loop G false _ _ af106l0.eq_1 _ _ _ ?_
    obtain ⟨k1, a1, i1⟩ := p
    obtain ⟨k2, a2, i2⟩ := q
    simp only [pS] at hget hget'
    have hpq : decide ((⟨k1, a1, i1⟩ : PStep) = ⟨k2, a2, i2⟩) = (decide (k1 = k2) && decide (a1 = a2) && decide (i1 = i2)) := by
      simp only [PStep.mk.injEq, Bool.decide_and, Bool.and_assoc]
    rw [hpq]
    by_cases e1 : k1 = k2
    · by_cases e2 : a1 = a2
      · cases i1 <;> cases i2
        · simp [g0, g1, g5, pSs_length, hlt, ↓hget, ↓hget', evEqs, eqCells, eqCell, e1, e2, hwi]
          exact hnx _ (by simp [g0]) (by simp [g1]) (by simp)
        · simp [g0, g1, g5, pSs_length, hlt, ↓hget, ↓hget', evEqs, eqCells, eqCell, e1, e2]
        · simp [g0, g1, g5, pSs_length, hlt, ↓hget, ↓hget', evEqs, eqCells, eqCell, e1, e2]
        · simp [g0, g1, g5, pSs_length, hlt, ↓hget, ↓hget', evEqs, eqCells, eqCell, e1, e2, hwi]
          exact hnx _ (by simp [g0]) (by simp [g1]) (by simp)
      · simp [g0, g1, g5, pSs_length, hlt, ↓hget, ↓hget', evEqs, eqCells, eqCell, e1, e2]
    · simp [g0, g1, g5, pSs_length, hlt, ↓hget, ↓hget', evEqs, eqCells, eqCell, e1]

theorem samePath_spec (L L' : List PStep) (hL : L.length ≤ 1000000000) (s : St) : call G 106 [.sl .no (pSs L), .sl .no (pSs L')] s = some (.bool (decide (L = L')), s) := by
  refine call_out (F := af106) rfl rfl ?_
  by_cases e : L.length = L'.length
  · have e' : (L.length : Int) = L'.length := by omega
    simp [af106, af106b, pSs_length, e, e']
    refine Out.mono (samePathLoop L L' hL e s L.length 0 _ (by omega) (by omega) (by simp) (by simp) (by simp)) ?_
    rintro e env s' ⟨rfl, ⟨q, rfl⟩ | ⟨q, rfl, q1⟩⟩
    · rw [List.drop_zero, List.drop_zero] at q
      rw [q]
      simp
    · rw [List.drop_zero, List.drop_zero] at q
      rw [q]
      simp [q1]
  · have e' : ¬ (L.length : Int) = L'.length := by omega
    have e2 : decide (L = L') = false := by
      rw [decide_eq_false_iff_not]
      intro h; exact e (by rw [h])
    rw [e2]
    simp [af106, af106b, pSs_length, e']

theorem sameNamesLoop (L L' : List (List UInt8)) (hL : L.length ≤ 1000000000) (hLL : L.length = L'.length) (s : St) :
    ∀ (m i : Nat) (env : Env), L.length - i = m → i ≤ L.length → env 0 = .sl .no (sgVs L) → env 1 = .sl .no (sgVs L') → env 5 = .int .i64 i →
      Out (evC G (.loop false af105l0) env s) (fun e env' s' => s' = s ∧ ((decide (L.drop i = L'.drop i) = true ∧ e = .exit 0) ∨ (decide (L.drop i = L'.drop i) = false ∧ e = .ret ∧ env' 4 = .bool false))) := by
  intro m
  induction m with
  | zero =>
    intro i env hm hi g0 g1 g5
    have : i = L.length := by omega
    subst this
    have e1 : L'.drop L.length = [] := by rw [hLL, List.drop_length]
    refine Out_loop G false _ _ af105l0.eq_1 _ _ _ ?_
    simp [g0, g5, sgVs_length, e1]
  | succ m ihm =>
    intro i env hm hi g0 g1 g5
    have hlt : i < L.length := by omega
    have hlt' : i < L'.length := by omega
    have hwi : IntKind.i64.wrap ((i : Int) + 1) = ((i + 1 : Nat) : Int) := by rw [wrap_in (by omega) (by omega)]; omega
    have hget : (sgVs L)[((i : Nat) : Int).toNat]? = some (V.str L[i]) := by rw [Int.toNat_natCast, sgVs_get, List.getElem?_eq_getElem hlt]; rfl
    have hget' : (sgVs L')[((i : Nat) : Int).toNat]? = some (V.str L'[i]) := by rw [Int.toNat_natCast, sgVs_get, List.getElem?_eq_getElem hlt']; rfl
    have hnx := fun env => ihm (i + 1) env (by omega) (by omega)
    have hd : decide (L.drop i = L'.drop i) = (decide (L[i] = L'[i]) && decide (L.drop (i + 1) = L'.drop (i + 1))) := by
      rw [List.drop_eq_getElem_cons hlt, List.drop_eq_getElem_cons hlt']
      simp only [List.cons.injEq, Bool.decide_and]
    rw [hd]
    generalize decide (L.drop (i + 1) = L'.drop (i + 1)) = tl at *
    generalize L[i] = p at *
    generalize L'[i] = q at *
    refine Out_loop G false _ _ af105l0.eq_1 _ _ _ ?_
    by_cases e1 : p = q
    · simp [g0, g1, g5, sgVs_length, hlt, ↓hget, ↓hget', e1, hwi]
      exact hnx _ (by simp [g0]) (by simp [g1]) (by simp)
    · simp [g0, g1, g5, sgVs_length, hlt, ↓hget, ↓hget', e1]

theorem sameNames_spec (L L' : List (List UInt8)) (hL : L.length ≤ 1000000000) (s : St) : call G 105 [.sl .no (sgVs L), .sl .no (sgVs L')] s = some (.bool (decide (L = L')), s) := by
  refine call_out (F := af105) rfl rfl ?_
  by_cases e : L.length = L'.length
  · have e' : (L.length : Int) = L'.length := by omega
    simp [af105, af105b, sgVs_length, e, e']
    refine Out.mono (sameNamesLoop L L' hL e s L.length 0 _ (by omega) (by omega) (by simp) (by simp) (by simp)) ?_
    rintro e env s' ⟨rfl, ⟨q, rfl⟩ | ⟨q, rfl, q1⟩⟩
    · rw [List.drop_zero, List.drop_zero] at q
      rw [q]
      simp
    · rw [List.drop_zero, List.drop_zero] at q
      rw [q]
      simp [q1]
  · have e' : ¬ (L.length : Int) = L'.length := by omega
    have e2 : decide (L = L') = false := by
      rw [decide_eq_false_iff_not]
      intro h; exact e (by rw [h])
    rw [e2]
    simp [af105, af105b, sgVs_length, e']

theorem sameErrsLoop (L L' : List PErr) (hL : L.length ≤ 1000000000) (hlp : ∀ x ∈ L, x.path.length ≤ 1000000000) (hLL : L.length = L'.length) (s : St) :
    ∀ (m i : Nat) (env : Env), L.length - i = m → i ≤ L.length → env 0 = .sl .no (erVs L) → env 1 = .sl .no (erVs L') → env 5 = .int .i64 i →
      Out (evC G (.loop false af104l0) env s) (fun e env' s' => s' = s ∧ ((decide (L.drop i = L'.drop i) = true ∧ e = .exit 0) ∨ (decide (L.drop i = L'.drop i) = false ∧ e = .ret ∧ env' 4 = .bool false))) := by
  intro m
  induction m with
  | zero =>
    intro i env hm hi g0 g1 g5
    have : i = L.length := by omega
    subst this
    have e1 : L'.drop L.length = [] := by rw [hLL, List.drop_length]
    refine Out_loop G false _ _ af104l0.eq_1 _ _ _ ?_
    simp [g0, g5, erVs_length, e1]
  | succ m ihm =>
    intro i env hm hi g0 g1 g5
    have hlt : i < L.length := by omega
    have hlt' : i < L'.length := by omega
    have hwi : IntKind.i64.wrap ((i : Int) + 1) = ((i + 1 : Nat) : Int) := by rw [wrap_in (by omega) (by omega)]; omega
    have hget : (erVs L)[((i : Nat) : Int).toNat]? = some (erV L[i]) := by rw [Int.toNat_natCast, erVs_get, List.getElem?_eq_getElem hlt]; rfl
    have hget' : (erVs L')[((i : Nat) : Int).toNat]? = some (erV L'[i]) := by rw [Int.toNat_natCast, erVs_get, List.getElem?_eq_getElem hlt']; rfl
    have hnx := fun env => ihm (i + 1) env (by omega) (by omega)
    have hd : decide (L.drop i = L'.drop i) = (decide (L[i] = L'[i]) && decide (L.drop (i + 1) = L'.drop (i + 1))) := by
      rw [List.drop_eq_getElem_cons hlt, List.drop_eq_getElem_cons hlt']
      simp only [List.cons.injEq, Bool.decide_and]
    rw [hd]
    generalize decide (L.drop (i + 1) = L'.drop (i + 1)) = tl at *
    have hp := List.getElem_mem hlt
    generalize L[i] = p at *
    generalize L'[i] = q at *
    refine Out_loop G false _ _ af104l0.eq_1 _ _ _ ?_
    have hpl : p.path.length ≤ 1000000000 := hlp p hp
    have hs := fun s => samePath_spec p.path q.path hpl s
    obtain ⟨pa, e⟩ := p
    obtain ⟨qa, e2⟩ := q
    simp only [erV] at hget hget' hs
    have hpq : decide ((⟨pa, e⟩ : PErr) = ⟨qa, e2⟩) = (decide (pa = qa) && decide (e = e2)) := by simp only [PErr.mk.injEq, Bool.decide_and]
    rw [hpq]
    generalize decide (pa = qa) = bp at *
    by_cases e1 : e = e2
    · cases bp
      · simp [g0, g1, g5, erVs_length, hlt, ↓hget, ↓hget', e1, hs]
      · simp [g0, g1, g5, erVs_length, hlt, ↓hget, ↓hget', e1, hs, hwi]
        exact hnx _ (by simp [g0]) (by simp [g1]) (by simp)
    · simp [g0, g1, g5, erVs_length, hlt, ↓hget, ↓hget', e1]

theorem sameErrs_spec (L L' : List PErr) (hL : L.length ≤ 1000000000) (hlp : ∀ x ∈ L, x.path.length ≤ 1000000000) (s : St) : call G 104 [.sl .no (erVs L), .sl .no (erVs L')] s = some (.bool (decide (L = L')), s) := by
  refine call_out (F := af104) rfl rfl ?_
  by_cases e : L.length = L'.length
  · have e' : (L.length : Int) = L'.length := by omega
    simp [af104, af104b, erVs_length, e, e']
    refine Out.mono (sameErrsLoop L L' hL hlp e s L.length 0 _ (by omega) (by omega) (by simp) (by simp) (by simp)) ?_
    rintro e env s' ⟨rfl, ⟨q, rfl⟩ | ⟨q, rfl, q1⟩⟩
    · rw [List.drop_zero, List.drop_zero] at q
      rw [q]
      simp
    · rw [List.drop_zero, List.drop_zero] at q
      rw [q]
      simp [q1]
  · have e' : ¬ (L.length : Int) = L'.length := by omega
    have e2 : decide (L = L') = false := by
      rw [decide_eq_false_iff_not]
      intro h; exact e (by rw [h])
    rw [e2]
    simp [af104, af104b, erVs_length, e']

theorem beq_false' {a b : Bool} (h : ¬ a = b) : (a == b) = false := by cases a <;> cases b <;> simp at h ⊢
/-- What stands ahead of who is announced, of two payloads. -/
def sameH (p q : Pay) : Bool :=
  decide (p.first = q.first) && decide (p.rcd = q.rcd) && decide (p.id = q.id) && decide (p.stream = q.stream) && decide (p.ended = q.ended) && decide (p.failed = q.failed) && decide (p.more = q.more) &&
    (sameV p.data q.data && decide (p.errs = q.errs) && decide (p.order = q.order) && decide (p.pend.length = q.pend.length))
def sameP (p q : Pay) : Bool := sameH p q && decide (p.pend = q.pend)

theorem spLoop (O : List AObj) (B : List (Nat × Nat × TypeId)) (a a' : Nat) (pc pc' : List V) (L L' : List PPen) (hL : L.length ≤ 1000000000) (hlp : ∀ x ∈ L, x.path.length ≤ 1000000000) (hLL : L.length = L'.length)
    (ha : ∀ Y, (O ++ Y)[a]? = some (.cells 51 pc)) (ha' : ∀ Y, (O ++ Y)[a']? = some (.cells 51 pc')) (hn : a' < O.length) (hpc : pc[7]? = some (.sl .no (pnVs L))) (hpc' : pc'[7]? = some (.sl .no (pnVs L'))) :
    ∀ (m i : Nat) (env : Env) (J : List AObj), L.length - i = m → i ≤ L.length → env 2 = .ptr a 0 → env 3 = .ptr a' 0 → env 5 = .int .i64 i →
      Out (evC G (.loop false af29l0) env ⟨O ++ J, B⟩) (fun e env' s' => (∃ J', s' = ⟨O ++ J', B⟩) ∧ ((decide (L.drop i = L'.drop i) = true ∧ e = .exit 0) ∨ (decide (L.drop i = L'.drop i) = false ∧ e = .ret ∧ env' 4 = .bool false))) := by
  intro m
  induction m with
  | zero =>
    intro i env J hm hi g2 g3 g5
    have : i = L.length := by omega
    subst this
    have e1 : L'.drop L.length = [] := by rw [hLL, List.drop_length]
    refine Out_loop G false _ _ af29l0.eq_1 _ _ _ ?_
    simp [g2, g3, g5, ha, hpc, pnVs_length, e1]
  | succ m ihm =>
    intro i env J hm hi g2 g3 g5
    have hlt : i < L.length := by omega
    have hlt' : i < L'.length := by omega
    have hwi : IntKind.i64.wrap ((i : Int) + 1) = ((i + 1 : Nat) : Int) := by rw [wrap_in (by omega) (by omega)]; omega
    have hget : (pnVs L)[((i : Nat) : Int).toNat]? = some (pnV L[i]) := by rw [Int.toNat_natCast, pnVs_get, List.getElem?_eq_getElem hlt]; rfl
    have hget' : (pnVs L')[((i : Nat) : Int).toNat]? = some (pnV L'[i]) := by rw [Int.toNat_natCast, pnVs_get, List.getElem?_eq_getElem hlt']; rfl
    have hnx := fun env J => ihm (i + 1) env J (by omega) (by omega)
    have hd : decide (L.drop i = L'.drop i) = (decide (L[i] = L'[i]) && decide (L.drop (i + 1) = L'.drop (i + 1))) := by
      rw [List.drop_eq_getElem_cons hlt, List.drop_eq_getElem_cons hlt']
      simp only [List.cons.injEq, Bool.decide_and]
    rw [hd]
    have hsp := fun q s => samePath_spec L[i].path q (hlp _ (List.getElem_mem hlt)) s
    generalize decide (L.drop (i + 1) = L'.drop (i + 1)) = tl at *
    generalize L[i] = p at *
    generalize L'[i] = q at *
    obtain ⟨pid, pa, la, na⟩ := p
    obtain ⟨qid, qa, lb, nb⟩ := q
    have hs := fun s => hsp qa s
    clear hsp
    simp only [pnV] at hget hget' hs
    have hpq : decide ((⟨pid, pa, la, na⟩ : PPen) = ⟨qid, qa, lb, nb⟩) = (decide (pid = qid) && (decide (pa = qa) && (decide (la = lb) && decide (na = nb)))) := by
      simp only [PPen.mk.injEq, Bool.decide_and]
    rw [hpq]
    generalize decide (pa = qa) = bp at *
    have hne : (a' != O.length + J.length) = true := by simp; omega
    refine Out_loop G false _ _ af29l0.eq_1 _ _ _ ?_
    by_cases e1 : pid = qid
    · by_cases e2 : la = lb
      · by_cases e3 : na = nb
        · cases bp with
          | false => simp [g2, g3, g5, ha, ha', hpc, hpc', pnVs_length, hlt, ↓hget, ↓hget', e1, e2, e3, hs, hne, evStore, fillL, putL, V.one, List.getElem?_append_right, List.set_append_right, List.getElem?_append, List.set_append, evC_regDA, regKA_some, aparts_nil, aparts_lt, tells_nil, tells_skip, apart]
          | true =>
            simp [g2, g3, g5, ha, ha', hpc, hpc', pnVs_length, hlt, ↓hget, ↓hget', e1, e2, e3, hs, hne, evStore, fillL, putL, V.one, List.getElem?_append, List.set_append, evC_regDA, regKA_some, aparts_nil, aparts_lt, tells_nil, tells_skip, apart, hwi]
            exact hnx _ _ (by simp [g2]) (by simp [g3]) (by simp)
        · have e3' := beq_false' e3
          simp [g2, g3, g5, ha, ha', hpc, hpc', pnVs_length, hlt, ↓hget, ↓hget', e1, e2, e3, e3', hne, evStore, fillL, putL, V.one, List.getElem?_append, List.set_append, evC_regDA, regKA_some, aparts_nil, aparts_lt, tells_nil, tells_skip, apart]
      · simp [g2, g3, g5, ha, ha', hpc, hpc', pnVs_length, hlt, ↓hget, ↓hget', e1, e2, hne, evStore, fillL, putL, V.one, List.getElem?_append, List.set_append, evC_regDA, regKA_some, aparts_nil, aparts_lt, tells_nil, tells_skip, apart]
    · simp [g2, g3, g5, ha, ha', hpc, hpc', pnVs_length, hlt, ↓hget, ↓hget', e1, hne, evStore, fillL, putL, V.one, List.getElem?_append, List.set_append, evC_regDA, regKA_some, aparts_nil, aparts_lt, tells_nil, tells_skip, apart]

theorem sameP_spec (p q : Pay) (hp : p.lim) (s : St) : call G 29 [payV p, payV q] s = some (.bool (sameP p q), s) := by
  have h1 := fun s => same_spec p.data q.data hp.data.1 s
  have h2 := fun s => sameErrs_spec p.errs q.errs hp.errs.1 (fun x h => (hp.errs.2 x h).1) s
  have h3 := fun s => sameNames_spec p.order q.order hp.order.1 s
  have hpl := hp.pend.1
  have hpp : ∀ x ∈ p.pend, x.path.length ≤ 1000000000 := fun x h => (hp.pend.2 x h).2.1
  clear hp
  obtain ⟨fi, ⟨k, nn, b, l, f⟩, er, pe, rc, id, st, od, en, fa, mo⟩ := p
  obtain ⟨fi2, ⟨k2, nn2, b2, l2, f2⟩, er2, pe2, rc2, id2, st2, od2, en2, fa2, mo2⟩ := q
  simp only [toV, vc] at h1 h2 h3 hpl hpp
  unfold sameP sameH
  simp only
  refine call_out (F := af29) rfl rfl ?_
  by_cases e_fi : fi = fi2
  · by_cases e_rc : rc = rc2
    · by_cases e_id : id = id2
      · by_cases e_st : st = st2
        · by_cases e_en : en = en2
          · by_cases e_fa : fa = fa2
            · by_cases e_mo : mo = mo2
              · generalize sameV (.mk k nn b l f) (.mk k2 nn2 b2 l2 f2) = bv at *
                generalize decide (er = er2) = be at *
                generalize decide (od = od2) = bo at *
                cases bv with
                | false => simp [af29, af29b, payC, vc, e_fi, e_rc, e_id, e_st, e_en, e_fa, e_mo, h1, sameP, sameH]
                | true => cases be with
                  | false => simp [af29, af29b, payC, vc, e_fi, e_rc, e_id, e_st, e_en, e_fa, e_mo, h1, h2, sameP, sameH]
                  | true => cases bo with
                    | false => simp [af29, af29b, payC, vc, e_fi, e_rc, e_id, e_st, e_en, e_fa, e_mo, h1, h2, h3, sameP, sameH]
                    | true =>
                      by_cases e : pe.length = pe2.length
                      · have e' : (pe.length : Int) = pe2.length := by omega
                        simp [af29, af29b, payC, vc, e_fi, e_rc, e_id, e_st, e_en, e_fa, e_mo, h1, h2, h3, pnVs_length, e, sameP, sameH]
                        obtain ⟨O, hO⟩ : ∃ O : List AObj, O = s.obs ++ [.cells 51 [.bool fi, .int .i64 k, .int .i64 nn, .str b, .sl .no (toVs l), .sl .no (toPs f), .sl .no (erVs er), .sl .no (pnVs pe), .bool rc, .int .i64 id, .bool st, .sl .no (sgVs od), .bool en, .bool fa, .bool mo], .cells 51 [.bool fi2, .int .i64 k2, .int .i64 nn2, .str b2, .sl .no (toVs l2), .sl .no (toPs f2), .sl .no (erVs er2), .sl .no (pnVs pe2), .bool rc2, .int .i64 id2, .bool st2, .sl .no (sgVs od2), .bool en2, .bool fa2, .bool mo2]] := ⟨_, rfl⟩
                        have ha : ∀ Y, (O ++ Y)[s.obs.length]? = some (.cells 51 [.bool fi, .int .i64 k, .int .i64 nn, .str b, .sl .no (toVs l), .sl .no (toPs f), .sl .no (erVs er), .sl .no (pnVs pe), .bool rc, .int .i64 id, .bool st, .sl .no (sgVs od), .bool en, .bool fa, .bool mo]) := by intro Y; rw [hO]; simp
                        have ha' : ∀ Y, (O ++ Y)[s.obs.length + 1]? = some (.cells 51 [.bool fi2, .int .i64 k2, .int .i64 nn2, .str b2, .sl .no (toVs l2), .sl .no (toPs f2), .sl .no (erVs er2), .sl .no (pnVs pe2), .bool rc2, .int .i64 id2, .bool st2, .sl .no (sgVs od2), .bool en2, .bool fa2, .bool mo2]) := by intro Y; rw [hO]; simp
                        have hOt : ∀ Y, (O ++ Y).take s.obs.length = s.obs := by intro Y; rw [hO]; simp
                        have e0 : O = O ++ [] := by simp
                        simp only [e_fi, e_rc, e_id, e_st, e_en, e_fa, e_mo] at hO ha ha'
                        rw [← hO, e0]
                        refine Out.mono (spLoop O s.bufs s.obs.length (s.obs.length + 1) _ _ pe pe2 hpl hpp e ha ha' (by rw [hO]; simp) rfl rfl pe.length 0 _ [] (by omega) (by omega) (by simp) (by simp) (by simp)) ?_
                        rintro e env s' ⟨⟨J, rfl⟩, ⟨q, rfl⟩ | ⟨q, rfl, q1⟩⟩
                        · rw [List.drop_zero, List.drop_zero] at q
                          rw [decide_eq_true_eq] at q
                          subst q
                          simp [hOt]
                        · rw [List.drop_zero, List.drop_zero] at q
                          have q' := q
                          rw [decide_eq_false_iff_not] at q'
                          simp [q', q1, hOt]
                      · have e' : ¬ (pe.length : Int) = pe2.length := by omega
                        simp [af29, af29b, payC, vc, e_fi, e_rc, e_id, e_st, e_en, e_fa, e_mo, h1, h2, h3, pnVs_length, e, e', sameP, sameH]
              · have e_mon := beq_false' e_mo
                simp [af29, af29b, payC, vc, e_fi, e_rc, e_id, e_st, e_en, e_fa, sameP, sameH, e_mo, e_mon]
            · have e_fan := beq_false' e_fa
              simp [af29, af29b, payC, vc, e_fi, e_rc, e_id, e_st, e_en, sameP, sameH, e_fa, e_fan]
          · have e_enn := beq_false' e_en
            simp [af29, af29b, payC, vc, e_fi, e_rc, e_id, e_st, sameP, sameH, e_en, e_enn]
        · have e_stn := beq_false' e_st
          simp [af29, af29b, payC, vc, e_fi, e_rc, e_id, sameP, sameH, e_st, e_stn]
      · simp [af29, af29b, payC, vc, e_fi, e_rc, sameP, sameH, e_id]
    · have e_rcn := beq_false' e_rc
      simp [af29, af29b, payC, vc, e_fi, sameP, sameH, e_rc, e_rcn]
  · have e_fin := beq_false' e_fi
    simp [af29, af29b, payC, vc, sameP, sameH, e_fi, e_fin]

/-! ### Few -/
theorem fewN_spec (v : JV) (hok : v.ok) (n : Int) (h0 : -1 ≤ n) (h1 : n ≤ 1000) (s : St) : call G 30 [toV v, .int .i64 n] s = some (.bool (decide (0 ≤ fewV v n)), s) := by
  have h := fun s => few_spec v hok n s h0 h1
  refine call_out (F := af30) rfl rfl ?_
  simp [af30, af30b, h]

mutual
theorem few_fine : ∀ (v : JV) (n : Int), n ≤ 1000 → 0 ≤ fewV v n → v.lim ∧ v.sh ∧ fewV v n ≤ n - 1
  | .mk k nn b l f, n, hn, h => by
    simp only [fewV] at h ⊢
    split at h
    · omega
    · rename_i hc
      rw [if_neg hc]
      simp only [not_or] at hc
      have hm : fewVs l (n - 1) ≤ 1000 := by
        by_cases q : 0 ≤ fewVs l (n - 1)
        · have := few_fineVs l (n - 1) (by omega) q
          omega
        · omega
      obtain ⟨p1, p2, p3, p4⟩ := few_finePs f (fewVs l (n - 1)) hm h
      obtain ⟨q1, q2, q3, q4⟩ := few_fineVs l (n - 1) (by omega) p3
      exact ⟨⟨by omega, by omega, q1, p1⟩, ⟨by omega, q2, p2⟩, by omega⟩
theorem few_fineVs : ∀ (l : List JV) (n : Int), n ≤ 1000 → 0 ≤ fewVs l n → limVs l ∧ shVs l ∧ 0 ≤ n ∧ (l.length : Int) + fewVs l n ≤ n
  | [], n, hn, h => by
    simp only [fewVs] at h ⊢
    exact ⟨trivial, trivial, h, by simp⟩
  | v :: l, n, hn, h => by
    simp only [fewVs] at h ⊢
    by_cases hc : 0 ≤ n
    · rw [if_pos hc] at h ⊢
      have hb : fewV v n ≤ n := (fewV_le v n).2 hc
      obtain ⟨q1, q2, q3, q4⟩ := few_fineVs l (fewV v n) (by omega) h
      obtain ⟨p1, p2, p3⟩ := few_fine v n hn q3
      exact ⟨⟨p1, q1⟩, ⟨p2, q2⟩, hc, by simp; omega⟩
    · rw [if_neg hc] at h
      omega
theorem few_finePs : ∀ (l : List (List UInt8 × JV)) (n : Int), n ≤ 1000 → 0 ≤ fewPs l n → limPs l ∧ shPs l ∧ 0 ≤ n ∧ (l.length : Int) + fewPs l n ≤ n
  | [], n, hn, h => by
    simp only [fewPs] at h ⊢
    exact ⟨trivial, trivial, h, by simp⟩
  | p :: l, n, hn, h => by
    simp only [fewPs] at h ⊢
    by_cases hc : 0 ≤ n
    · rw [if_pos hc] at h ⊢
      split at h
      · omega
      · rename_i hk
        rw [if_neg hk]
        have hb : fewV p.2 n ≤ n := (fewV_le p.2 n).2 hc
        obtain ⟨q1, q2, q3, q4⟩ := few_finePs l (fewV p.2 n) (by omega) h
        obtain ⟨p1, p2, p3⟩ := few_fine p.2 n hn q3
        exact ⟨⟨p1, q1⟩, ⟨p2, q2⟩, hc, by simp; omega⟩
    · rw [if_neg hc] at h
      omega
end

/-! ### The program's value is the reference's -/
theorem errs_R {l : List PErr} (h : ∀ e ∈ l, pathR e.path = true) : l.map errJ = l.map errR :=
  List.map_congr_left fun e he => by simp [errJ, errR, pathW, h e he]
theorem pens_R {l : List PPen} (h : ∀ e ∈ l, pathR e.path = true) : l.map penJ = l.map penR :=
  List.map_congr_left fun e he => by simp [penJ, penR, pathW, h e he]
theorem payJ_R (p : Pay) (hE : ∀ e ∈ p.errs, pathR e.path = true) (hP : ∀ x ∈ p.pend, pathR x.path = true) (hs : p.first = true → p.rcd = false ∧ p.ended = false) : payJ p = payR p := by
  have h1 : errsJ p.errs = errsR p.errs := by unfold errsJ errsR; rw [errs_R hE]
  have h2 := pens_R hP
  obtain ⟨fi, d, er, pe, rc, id, st, od, en, fa, mo⟩ := p
  simp only at h1 h2 hs
  have hr : recJ ⟨fi, d, er, pe, rc, id, st, od, en, fa, mo⟩ = recR ⟨fi, d, er, pe, rc, id, st, od, en, fa, mo⟩ := by
    unfold recJ recR g1R
    simp only [h1]
    cases st <;> cases er <;> simp [objOf]
  have he : endJ ⟨fi, d, er, pe, rc, id, st, od, en, fa, mo⟩ = endR ⟨fi, d, er, pe, rc, id, st, od, en, fa, mo⟩ := by
    unfold endJ endR
    simp only [h1]
    cases fa <;> simp [objOf]
  unfold payJ payR f1R f2R f3R f4R
  rw [hr, he]
  generalize recR ⟨fi, d, er, pe, rc, id, st, od, en, fa, mo⟩ = r1
  generalize endR ⟨fi, d, er, pe, rc, id, st, od, en, fa, mo⟩ = r2
  simp only [h1, h2]
  cases fi with
  | true =>
    obtain ⟨rfl, rfl⟩ := hs rfl
    cases er <;> cases pe <;> simp [objOf]
  | false => cases rc <;> cases en <;> cases pe <;> simp [objOf]

theorem shape_tog (p : Pay) (h : treeV p.data 12 = true) : shapeB p = togB p := by
  unfold shapeB togB
  rw [h]
  obtain ⟨fi, d, er, pe, rc, id, st, od, en, fa, mo⟩ := p
  simp only
  cases fi with
  | true => rfl
  | false =>
    cases rc with
    | true => cases st <;> cases fa <;> simp
    | false => simp
theorem right_R (p : Pay) : rightB p = rightR p := by
  unfold rightB rightR partsB
  cases ht : treeV p.data 12 with
  | false => simp
  | true =>
    rw [shape_tog p ht]
    cases hE : p.errs.all PErr.okB with
    | false => simp
    | true =>
      cases hP : p.pend.all PPen.okB with
      | false => simp
      | true =>
        cases hT : togB p with
        | false => simp
        | true =>
          have e1 : ∀ e ∈ p.errs, pathR e.path = true := fun e he => by
            have := List.all_eq_true.1 hE e he
            simp only [PErr.okB, Bool.and_eq_true] at this
            exact this.2
          have e2 : ∀ x ∈ p.pend, pathR x.path = true := fun x hx => by
            have := List.all_eq_true.1 hP x hx
            simp only [PPen.okB, Bool.and_eq_true] at this
            exact this.1.1.2
          have e3 : p.first = true → p.rcd = false ∧ p.ended = false := fun hf => by
            simp only [togB, hf, if_true, Bool.and_eq_true, Bool.not_eq_true'] at hT
            exact ⟨hT.1.1.1.1.2, hT.1.2⟩
          rw [payJ_R p e1 e2 e3]
          simp
theorem right_payR {p : Pay} (h : rightB p = true) : payJ p = payR p := by
  have h' := h
  rw [right_R] at h
  unfold rightB partsB at h'
  unfold rightR at h
  simp only [Bool.and_eq_true] at h h'
  refine payJ_R p (fun e he => ?_) (fun x hx => ?_) (fun hf => ?_)
  · have := List.all_eq_true.1 h.1.1.2 e he
    simp only [PErr.okB, Bool.and_eq_true] at this
    exact this.2
  · have := List.all_eq_true.1 h.1.2 x hx
    simp only [PPen.okB, Bool.and_eq_true] at this
    exact this.1.1.2
  · have hT := h.1.1.1.1.2
    simp only [togB, hf, if_true, Bool.and_eq_true, Bool.not_eq_true'] at hT
    exact ⟨hT.1.1.1.1.2, hT.1.2⟩

/-! ### What a program that does nothing does not answer -/
def p0 : Pay := ⟨true, jNull, [], [], false, 0, false, [], false, false, false⟩
theorem p0_right : rightB p0 = true := by decide
theorem p0_lim : p0.lim := ⟨by simp [p0], by simp [p0], by simp [p0], ⟨jNull_ok, jNull_lim⟩, by simp [p0]⟩
theorem awakeC_spec (s : St) : call G 21 [] s = some (.bool true, s) := by
  have h1 := fun s => value_pay p0 p0_lim (by simp [p0]) s
  have h2 := fun s => right_pay p0 p0_lim (by simp [p0]) s
  rw [p0_right] at h1 h2
  have e : payJ p0 = .mk 5 0 [] [] [(kData, jNull), (kNext, flagJ false)] := by rfl
  rw [e] at h1
  simp only [if_true, payV, payC, p0, jNull, toV, vc, toVs, toPs, erVs_nil, pnVs_nil, sgVs_nil, List.cons_append, List.nil_append] at h1 h2
  refine call_out (F := af21) rfl rfl ?_
  simp [af21, af21b, h1, h2, fillL, evStore, putL, V.one, List.getElem?_append, List.set_append]

theorem zeroP_same : sameP zeroP zeroP = true := by
  have : sameV jNull jNull = true := (sameV_iff _ _).2 rfl
  simp [sameP, sameH, zeroP, this]
theorem zeroP_lim : zeroP.lim := ⟨by simp [zeroP], by simp [zeroP], by simp [zeroP], ⟨jNull_ok, jNull_lim⟩, by simp [zeroP]⟩

theorem of_law (v : JV) (hok : v.ok) (s : St) : call G 5 [toV v] s = some (.bool true, s) := by
  have ha := awakeC_spec
  have hf := fun s => fewN_spec v hok 80 (by omega) (by omega) s
  refine call_out (F := af5) rfl rfl ?_
  by_cases hfew : 0 ≤ fewV v 80
  · obtain ⟨hlim, hsh, _⟩ := few_fine v 80 (by omega) hfew
    have h1 := fun s => of_spec v hok hlim hsh s
    rw [decide_eq_true hfew] at hf
    clear hfew
    cases ho : ofB v with
    | false =>
      have h2 := fun s => sameP_spec zeroP zeroP zeroP_lim s
      rw [zeroP_same] at h2
      rw [ho] at h1
      clear ho hok hlim hsh
      obtain ⟨k, nn, b, l, f⟩ := v
      simp only [zeroP, jNull, payV, payC, toV, vc, toVs, toPs, erVs_nil, pnVs_nil, sgVs_nil, Bool.false_eq_true, if_false, List.cons_append, List.nil_append] at h1 h2 hf
      simp [af5, af5b, vc, toVs, toPs, erVs_nil, pnVs_nil, sgVs_nil, ha, hf, h1, h2, fillL, evStore, putL, V.one, List.getElem?_append, List.set_append]
    | true =>
      obtain ⟨pl, pn⟩ := readP_lim hok hlim
      have ho' := ho
      unfold ofB at ho'
      simp only [Bool.and_eq_true] at ho'
      obtain ⟨⟨_, hr⟩, hs⟩ := ho'
      have hR := right_payR hr
      have hfine := fine_pay pl pn
      rw [hR] at hfine
      have h2 := fun s => refRightP_spec (readP v) pl hfine.1 s
      rw [← right_R, hr] at h2
      have h3 := fun s => refValue_spec (readP v) pl s
      have h4 := fun s => same_spec (payR (readP v)) v hfine.1 s
      have h5 : sameV (payR (readP v)) v = true := by
        rw [hR] at hs
        have := (sameV_iff _ _).1 hs
        exact (sameV_iff _ _).2 this.symm
      rw [h5] at h4
      rw [ho] at h1
      clear ho hs hR hfine h5 pl pn hok hlim hsh hr
      simp only [if_true] at h1
      generalize payR (readP v) = R at *
      generalize readP v = p at *
      obtain ⟨k, nn, b, l, f⟩ := v
      obtain ⟨k2, nn2, b2, l2, f2⟩ := R
      obtain ⟨fi, ⟨k1, nn1, b1, l1, f1⟩, er, pe, rc, id, st, od, en, fa, mo⟩ := p
      simp only [payV, payC, toV, vc, List.cons_append, List.nil_append] at h1 h2 h3 h4 hf
      simp [af5, af5b, vc, ha, hf, h1, h2, h3, h4, fillL, evStore, putL, V.one, List.getElem?_append, List.set_append]
  · rw [decide_eq_false hfew] at hf
    clear hfew hok
    obtain ⟨k, nn, b, l, f⟩ := v
    simp only [toV, vc] at hf
    simp [af5, af5b, vc, ha, hf, fillL, evStore, putL, V.one, List.getElem?_append, List.set_append]

end Go.Proofs.YtboejpobmpfifaaGreatDoor.Eng
