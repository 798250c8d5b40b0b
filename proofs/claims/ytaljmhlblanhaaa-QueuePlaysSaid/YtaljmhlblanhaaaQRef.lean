/-
  The chapter's queue, by definition: New, Put. No condition.
-/
import Derived.Test.YtaljmhlblanhaaaQStr3
import Derived.Test.YtaljmhlblanhaaaQSoon3
namespace Go.Proofs.Ytaljmhlblanhaaa.Eng.Qs
open Go Go.Proofs.Ytaljmhlblanhaaa.Eng
set_option linter.unusedSimpArgs false
set_option linter.unusedVariables false

attribute [local simp] evC_reg evC_regD evR_cons evR_nil runR_some regK_some evC_ret evC_skip evC_exit Out_seq Out_blk Out_some seqQ_norm seqQ_ret seqQ_exit blkQ_norm blkQ_ret blkQ_exit loopQ_norm loopQ_ret loopQ_exit
attribute [local simp] stepR evOp put upd_apply X.ev initEnv cells_agg cells_int cells_str cells_bool cells_sl cells_ptr cells_pnil cells_fn cells_map takeN evBin isSh intBin strBin callK resOf packR fin V.plain plainL V.und undL scK kill dstsO dstsL dstsR ite_some ite_pair ite_vbool evUn evLoad evLen V.real finLoop_false quietK_false kill_none

/-- Things, and when they were put. -/
def ents (M : List E) : List V := M.map fun e => .agg [.str e.1, .int .i64 e.2]
@[simp] theorem ents_length (M : List E) : (ents M).length = M.length := by simp [ents]
theorem ents_plain (M : List E) : plainL (ents M) = ents M := by
  induction M with
  | nil => rfl
  | cons e M ih => simp only [ents, List.map_cons, plainL, V.plain] at ih ⊢; rw [ih]
theorem ents_und (M : List E) (n b : Nat) : undL n b (ents M) = true := by
  induction M with
  | nil => rfl
  | cons e M ih => simp only [ents, List.map_cons, undL, V.und] at ih ⊢; rw [ih]; rfl
theorem ents_fits (M : List E) : fits 2 (ents M) = true := by cases M <;> rfl
theorem ents_snoc (M : List E) (e : E) : ents M ++ [.agg [.str e.1, .int .i64 e.2]] = ents (M ++ [e]) := by simp [ents]
theorem ents_get {M : List E} {i : Nat} {e : E} (h : M[i]? = some e) : (ents M)[i]? = some (.agg [.str e.1, .int .i64 e.2]) := by simp [ents, h]
def rq (p : Int) (M : List E) (t : Int) : V := .agg [.int .i64 p, .sl .no (ents M), .int .i64 t]
attribute [local simp] ents_plain ents_und

theorem rnew_spec (p : Int) (s : St) : call G 12 [.int .i64 p] s = some (rq (if 0 > p then 0 else p) [] 0, s) := by
  refine call_out (F := af12) rfl rfl ?_
  simp [af12, af12b, evMxn, fillL, putL, evStore, V.one, rq, ents]

theorem rput_spec (p t : Int) (M : List E) (x : List UInt8) (hM : M.length ≤ 1000000) (s : St) : call G 14 [rq p M t, .str x] s = some (rq p (M ++ [(x, t)]) t, s) := by
  refine call_out (F := af14) rfl rfl ?_
  cases M with
  | nil =>
    simp [af14, af14b, rq, ents, fillS, fillL, putL, evApp, appSrc, fits, V.one, room, evStore]
  | cons e M =>
    have h1 : (ents (e :: M)).length ≠ 0 := by simp
    have hap : ∀ s : St, evApp false 2 (24, 50) (.sl .emp []) (.sl .no (ents (e :: M))) s = some (.sl (.buf s.bufs.length) (ents (e :: M)), { s with bufs := s.bufs ++ [((ents (e :: M)).length, (24, 50))] }) := by
      intro s
      simp only [evApp, appSrc]
      rw [if_neg h1, if_pos ⟨rfl, ents_fits _, by simp [room] at hM ⊢; omega⟩]
      simp
    have hap2 : ∀ (s : St) (b : List (Nat × Nat × TypeId)), s.bufs = b ++ [((ents (e :: M)).length, (24, 50))] → evApp false 2 (24, 50) (.sl (.buf b.length) (ents (e :: M))) (.sl .no [.agg [.str x, .int .i64 t]]) s =
        some (.sl (.buf b.length) (ents (e :: M ++ [(x, t)])), { s with bufs := b ++ [((ents (e :: M)).length + 1, (24, 50))] }) := by
      intro s b hs
      simp only [evApp, appSrc]
      rw [if_neg (by simp), if_pos ⟨ents_fits _, rfl, by simp [room] at hM ⊢; omega⟩]
      rw [hs]
      simp [ents_snoc]
      simp [ents]
    simp [af14, af14b, rq, fillS, fillL, putL, hap, V.one, evStore]
    rw [hap2 _ s.bufs (by simp)]
    simp [putL, V.one, evStore]

/-! ### Take -/
/-- The first of which it holds, looked for from behind. -/
def scanV (g : Nat → Bool) : Nat → Int → Int
  | 0, a => a
  | m + 1, a => scanV g m (if g m then (m : Int) else a)

theorem scanV_congr {g g' : Nat → Bool} : ∀ (m : Nat) (a : Int), (∀ i, i < m → g i = g' i) → scanV g m a = scanV g' m a
  | 0, a, _ => rfl
  | m + 1, a, h => by
    simp only [scanV]
    rw [h m (by omega)]
    exact scanV_congr m _ (fun i hi => h i (by omega))

theorem idxV_snoc {α : Type} (g : α → Bool) (e : α) : ∀ (L : List α) (i : Nat), idxV g (L ++ [e]) i = if idxV g L i = -1 then (if g e then ((i + L.length : Nat) : Int) else -1) else idxV g L i
  | [], i => by simp [idxV]
  | x :: L, i => by
    have hr := idxV_or g L (i + 1)
    simp only [List.cons_append, idxV]
    split
    · rw [if_neg (by omega)]
    · rw [idxV_snoc g e L (i + 1)]
      simp only [List.length_cons]
      rw [show i + 1 + L.length = i + (L.length + 1) by omega]

theorem scan_idx {α : Type} (r : α → Bool) : ∀ (n : Nat) (L : List α) (a : Int), L.length = n → scanV (fun i => (L[i]?).any r) n a = if idxV r L 0 = -1 then a else idxV r L 0 := by
  intro n
  induction n with
  | zero =>
    intro L a h
    have : L = [] := List.length_eq_zero_iff.1 h
    subst this
    simp [scanV, idxV]
  | succ n ih =>
    intro L a h
    obtain ⟨M, e, rfl⟩ : ∃ M e, L = M ++ [e] := ⟨L.dropLast, L.getLast (by intro q; rw [q] at h; simp at h), (List.dropLast_concat_getLast _).symm⟩
    have hM : M.length = n := by simpa using h
    simp only [scanV]
    rw [scanV_congr (g' := fun i => (M[i]?).any r) n _ (fun i hi => by rw [List.getElem?_append_left (by omega)])]
    rw [ih M _ hM, idxV_snoc]
    have hg : (fun i => ((M ++ [e])[i]?).any r) n = r e := by
      show ((M ++ [e])[n]?).any r = r e
      rw [← hM]; simp
    simp only [hg]
    have hr := idxV_or r M 0
    by_cases hi : idxV r M 0 = -1
    · rw [if_pos hi, if_pos hi]
      by_cases he : r e = true
      · rw [if_pos he, if_pos he, if_neg (by omega), Nat.zero_add, hM]
      · rw [if_neg he, if_neg he, if_pos rfl]
    · rw [if_neg hi, if_neg hi, if_neg hi]

theorem scanLoop {b : Nat} {p t : Int} {M : List E} (hM : M.length ≤ 1000000) (hp : ∀ e ∈ M, 0 ≤ t - e.2 ∧ t - e.2 ≤ 1000000) (s : St) (hb : s.obs[b]? = some (.cells 40 [.int .i64 p, .sl .no (ents M), .int .i64 t])) :
    ∀ (m : Nat) (env : Env) (a : Int), m ≤ M.length → env 2 = .ptr b 0 → env 8 = .int .i64 a → env 9 = .int .i64 ((m : Int) - 1) →
      Out (evC G (.loop false af15l0) env s) (fun e env' s' => e = .exit 0 ∧ s' = s ∧ env' 2 = env 2 ∧ env' 4 = env 4 ∧ env' 7 = env 7 ∧ env' 8 = .int .i64 (scanV (fun i => (M[i]?).any fun e => decide (p ≤ t - e.2)) m a)) := by
  have hl1 : evLoad none (.ptr b 1) s = some (.sl .no (ents M), s) := by simp [evLoad, hb]
  have hl0 : evLoad none (.ptr b 0) s = some (.int .i64 p, s) := by simp [evLoad, hb]
  have hl2 : evLoad none (.ptr b 2) s = some (.int .i64 t, s) := by simp [evLoad, hb]
  intro m
  induction m with
  | zero =>
    intro env a hm g2 g8 g9
    refine Out_loop G false _ _ af15l0.eq_1 _ _ _ ?_
    simp [g9]
    refine Out_cond _ _ _ _ _ _ _ rfl (fun h => by simp at h) (fun _ => ?_)
    simp [scanV, g8, g2]
  | succ m ihm =>
    intro env a hm g2 g8 g9
    have hlt : m < M.length := by omega
    obtain ⟨e, he⟩ : ∃ e, M[m]? = some e := ⟨_, List.getElem?_eq_getElem hlt⟩
    have hge := ents_get he
    have hgz : (ents M)[((m : Nat) : Int).toNat]? = some (.agg [.str e.1, .int .i64 e.2]) := hge
    have hpe := hp e (List.mem_of_getElem? he)
    have hw : IntKind.i64.wrap (t - e.2) = t - e.2 := wrap_in (by omega) (by omega)
    have hw1 : IntKind.i64.wrap ((m : Int) - 1) = (m : Int) - 1 := wrap_in (by omega) (by omega)
    have h9 : ((m + 1 : Nat) : Int) - 1 = m := by omega
    rw [h9] at g9
    refine Out_loop G false _ _ af15l0.eq_1 _ _ _ ?_
    simp [g9, -evLoad]
    refine Out_cond _ _ _ _ _ _ _ rfl (fun _ => ?_) (fun h => by simp at h <;> omega)
    simp [g2, g9, hl0, hl1, hl2, ↓hgz, ld_ept, hw, -evLoad]
    refine Out_cond _ _ _ _ _ _ _ rfl (fun hg => ?_) (fun hg => ?_)
    · simp [g9, hw1, -evLoad]
      refine Out.mono (ihm _ (m : Int) (by omega) ?_ ?_ ?_) ?_
      · simp [g2]
      · simp
      · simp
      · rintro e' env' s' ⟨rfl, rfl, k2, k4, k7, k8⟩
        refine ⟨rfl, rfl, by rw [k2]; simp [g2], by rw [k4]; simp, by rw [k7]; simp, ?_⟩
        rw [k8]
        simp only [scanV, he, Option.any_some]
        rw [if_pos hg]
    · simp [g9, hw1, -evLoad]
      refine Out.mono (ihm _ a (by omega) ?_ ?_ ?_) ?_
      · simp [g2]
      · simp [g8]
      · simp
      · rintro e' env' s' ⟨rfl, rfl, k2, k4, k7, k8⟩
        refine ⟨rfl, rfl, by rw [k2]; simp [g2], by rw [k4]; simp, by rw [k7]; simp, ?_⟩
        rw [k8]
        simp only [scanV, he, Option.any_some]
        rw [if_neg (by simp [hg])]

/-- Two lists, one behind the other, to a slice of their own. -/
theorem app2 (A B : List E) (hA : A.length ≤ 1000000) (hB : B.length ≤ 1000000) (bs : List (Nat × Nat × TypeId)) :
    ∃ v1 b1 o b2, (∀ obs, evApp false 2 (24, 50) (.sl .nil []) (.sl .no (ents A)) ⟨obs, bs⟩ = some (v1, ⟨obs, b1⟩)) ∧ (∀ obs, evApp false 2 (24, 50) v1 (.sl .no (ents B)) ⟨obs, b1⟩ = some (.sl o (ents (A ++ B)), ⟨obs, b2⟩)) ∧ b2.take bs.length = bs := by
  have one : ∀ (o : Own), o = .nil → ∀ (M : List E), M.length ≤ 1000000 → M ≠ [] → ∀ obs, evApp false 2 (24, 50) (.sl o []) (.sl .no (ents M)) ⟨obs, bs⟩ = some (.sl (.buf bs.length) (ents M), ⟨obs, bs ++ [((ents M).length, (24, 50))]⟩) := by
    rintro o rfl M hM hne obs
    have h0 : ¬ (ents M).length = 0 := by simp [hne]
    simp only [evApp, appSrc]
    rw [if_neg h0, if_pos ⟨rfl, ents_fits _, by simp [room] at hM ⊢; omega⟩]
    simp
  by_cases a0 : A = []
  · subst a0
    by_cases b0 : B = []
    · subst b0
      exact ⟨.sl .nil [], bs, .nil, bs, fun _ => rfl, fun _ => rfl, by simp⟩
    · exact ⟨.sl .nil [], bs, .buf bs.length, _, fun _ => rfl, one .nil rfl B hB b0, by simp⟩
  · by_cases b0 : B = []
    · subst b0
      refine ⟨_, _, .buf bs.length, bs ++ [((ents A).length, (24, 50))], one .nil rfl A hA a0, fun obs => ?_, by simp⟩
      simp only [evApp, appSrc]
      rw [if_pos (by simp), List.append_nil]
    · refine ⟨_, _, .buf bs.length, bs ++ [((ents A).length + (ents B).length, (24, 50))], one .nil rfl A hA a0, fun obs => ?_, by simp⟩
      have h0 : ¬ (ents B).length = 0 := by simp [b0]
      simp only [evApp, appSrc]
      rw [if_neg h0, if_pos ⟨ents_fits _, ents_fits _, by simp [room] at hA hB ⊢; omega⟩]
      simp [ents]

/-- How old each is. -/
def ages (t : Int) (M : List E) : List E := M.map fun e => (e.1, t - e.2)

theorem idx_ages (p t : Int) : ∀ (M : List E) (i : Nat), idxV (fun e : E => decide (p ≤ e.2)) (ages t M) i = idxV (fun e : E => decide (p ≤ t - e.2)) M i
  | [], _ => rfl
  | e :: M, i => by
    simp only [ages, List.map_cons, idxV]
    rw [← idx_ages p t M (i + 1)]
    rfl

theorem rtake_none (p t : Int) (pick : Int) (s : St) : call G 15 [rq p [] t, .int .i64 pick] s = some (.tup [rq p [] t, .str [], .bool false], s) := by
  refine call_out (F := af15) rfl rfl ?_
  simp [af15, af15b, rq, ents]
  refine Out_cond _ _ _ _ _ _ _ rfl (fun _ => ?_) (fun h => by simp at h)
  simp [evStore, V.one, putL]

theorem rtake_spec (p t : Int) (M : List E) (hM : M.length ≤ 1000000) (hp : ∀ e ∈ M, 0 ≤ t - e.2 ∧ t - e.2 ≤ 1000000) (ht : 0 ≤ t ∧ t ≤ 1000000) (pick : Int) (e : E) (he : M[(nextV p (ages t M) pick).toNat]? = some e) (s : St) :
    call G 15 [rq p M t, .int .i64 pick] s = some (.tup [rq p (M.eraseIdx (nextV p (ages t M) pick).toNat) (t + 1), .str e.1, .bool true], s) := by
  have hne : M ≠ [] := by rintro rfl; simp at he
  have hne' : ages t M ≠ [] := by simpa [ages] using hne
  have hal : (ages t M).length = M.length := by simp [ages]
  have hlt := nextV_lt p (ages t M) pick hne'
  rw [hal] at hlt
  have hlp : 0 < M.length := List.length_pos_iff.2 hne
  -- where it is taken
  have hat : ∃ a0 : Int, a0 = (if pick.tmod M.length < 0 then pick.tmod M.length + M.length else pick.tmod M.length) ∧ scanV (fun i => (M[i]?).any fun e => decide (p ≤ t - e.2)) M.length a0 = nextV p (ages t M) pick := by
    refine ⟨_, rfl, ?_⟩
    rw [scan_idx (fun e : E => decide (p ≤ t - e.2)) M.length M _ rfl]
    unfold nextV
    rw [idx_ages, hal]
    have b1 := Int.tmod_lt_of_pos pick (b := (M.length : Int)) (by omega)
    have b2 := Int.lt_tmod_of_pos pick (b := (M.length : Int)) (by omega)
    split
    · split
      · rw [Int.tmod_eq_of_lt (a := pick.tmod M.length + M.length) (by omega) (by omega)]
      · have h1 : (pick.tmod M.length + M.length).tmod M.length = (pick.tmod M.length + M.length).emod M.length := Int.tmod_eq_emod_of_nonneg (by omega)
        rw [h1]
        show _ = (pick.tmod M.length + M.length) % M.length
        rw [Int.add_emod_right, Int.emod_eq_of_lt (by omega) (by omega)]
    · rfl
  obtain ⟨a0, ha0, hscan⟩ := hat
  generalize hn : (nextV p (ages t M) pick).toNat = n at he ⊢
  have hni : nextV p (ages t M) pick = (n : Int) := by omega
  rw [hni] at hscan hlt
  have hnl : n < M.length := by omega
  have hge := ents_get he
  have hgz : (ents M)[((n : Nat) : Int).toNat]? = some (.agg [.str e.1, .int .i64 e.2]) := hge
  have hs1 : ∀ s, evSlc 2 (.sl .no (ents M)) none (some (.int .i64 n)) s = some (.sl .no (ents (M.take n))) := by
    intro s
    have hb : bnd (some (.int .i64 (n : Int))) (ents M).length = some n := by simp [bnd]
    simp only [evSlc, hb]
    simp only [bnd]
    rw [if_pos ⟨by omega, by simp; omega, ents_fits M⟩, if_neg (by simp; omega)]
    simp [ents]
  have hs2 : ∀ s, evSlc 2 (.sl .no (ents M)) (some (.int .i64 ((n : Int) + 1))) none s = some (.sl .no (ents (M.drop (n + 1)))) := by
    intro s
    have hb : bnd (some (.int .i64 ((n : Int) + 1))) 0 = some (n + 1) := by simp [bnd]; omega
    simp only [evSlc, hb]
    simp only [bnd]
    rw [if_pos ⟨by simp; omega, by simp, ents_fits M⟩, if_neg (by omega)]
    simp [ents]
    rw [List.take_of_length_le (by simp)]
  have hw0 : IntKind.i64.wrap ((M.length : Int) - 1) = (M.length : Int) - 1 := wrap_in (by omega) (by omega)
  have hw1 : IntKind.i64.wrap ((n : Int) + 1) = (n : Int) + 1 := wrap_in (by omega) (by omega)
  have hw2 : IntKind.i64.wrap (t + 1) = t + 1 := wrap_in (by omega) (by omega)
  obtain ⟨v1, b1, o, b2, c1, c2, hb2⟩ := app2 (M.take n) (M.drop (n + 1)) (by simp; omega) (by simp; omega) s.bufs
  rw [← List.eraseIdx_eq_take_drop_succ] at c2
  have hn0 : ¬ (M.length : Int) = 0 := by omega
  refine call_out (F := af15) rfl rfl ?_
  simp [af15, af15b, rq]
  refine Out_cond _ _ _ _ _ _ _ rfl (fun h => by simp at h; exact absurd h hne) (fun _ => ?_)
  simp [hne]
  refine Out.mono (Q := fun e env' s' => e = .norm ∧ s' = ⟨s.obs ++ [.cells 40 [.int .i64 p, .sl .no (ents M), .int .i64 t], .cells 40 [.int .i64 0, .sl .nil [], .int .i64 0]], s.bufs⟩ ∧ env' 8 = .int .i64 a0 ∧ env' 2 = .ptr s.obs.length 0 ∧ env' 4 = .ptr (s.obs.length + 1) 0 ∧ env' 7 = .int .i64 M.length) ?_ ?_
  · refine Out_cond _ _ _ _ _ _ _ rfl (fun hc => ?_) (fun hc => ?_)
    · have hc' : pick.tmod M.length < 0 := by simpa using hc
      have b2 := Int.lt_tmod_of_pos pick (b := (M.length : Int)) (by omega)
      have hw : IntKind.i64.wrap (pick.tmod M.length + M.length) = pick.tmod M.length + M.length := wrap_in (by omega) (by omega)
      rw [if_pos hc'] at ha0
      simp [hw, ha0]
    · have hc' : ¬ pick.tmod M.length < 0 := by simpa using hc
      rw [if_neg hc'] at ha0
      simp [ha0]
  rintro e1 env1 s1 ⟨rfl, rfl, g8, g2, g4, g7⟩
  simp [g7, hw0]
  refine Out.mono (scanLoop (b := s.obs.length) (p := p) (t := t) hM hp _ (by simp) M.length _ a0 (Nat.le_refl _) ?_ ?_ ?_) ?_
  · simp [g2]
  · simp [g8]
  · simp
  rintro e2 env2 s2 ⟨rfl, rfl, k2, k4, k7, k8⟩
  rw [hscan] at k8
  simp [g2] at k2
  simp [g4] at k4
  simp [k2, k4, k8, ↓hgz, hs1, hs2, c1, c2, hw1, hw2, evStore, V.one, putL, hb2]
end Go.Proofs.Ytaljmhlblanhaaa.Eng.Qs
