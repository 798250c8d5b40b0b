/-
  The statement QueueSoon, over values. No condition.
-/
import Derived.Test.YtaljmhlblanhaaaQAll
namespace Go.Proofs.Ytaljmhlblanhaaa.Eng
open Go
set_option linter.unusedSimpArgs false
set_option linter.unusedVariables false

attribute [local simp] evC_reg evC_regD evR_cons evR_nil runR_some regK_some evC_ret evC_skip evC_exit Out_seq Out_blk Out_some seqQ_norm seqQ_ret seqQ_exit blkQ_norm blkQ_ret blkQ_exit loopQ_norm loopQ_ret loopQ_exit
attribute [local simp] stepR evOp put upd_apply X.ev initEnv cells_agg cells_int cells_str cells_bool cells_sl cells_ptr cells_pnil cells_fn cells_map takeN evBin isSh intBin strBin callK resOf packR fin V.plain plainL V.und undL scK kill dstsO dstsL dstsR ite_some ite_pair ite_vbool evUn evLen V.real finLoop_false quietK_false kill_none

/-! ### The law, plainly -/
abbrev PA := Nat × Nat
def lst (xs : List PA) : List E := xs.map fun p => ((p.1 : Int), (p.2 : Int))
def incA (p : PA) : PA := (p.1, p.2 + 1)
@[simp] theorem lst_length (xs : List PA) : (lst xs).length = xs.length := by simp [lst]
theorem lst_snoc (xs : List PA) (j : Nat) : lst xs ++ [((j : Int), 0)] = lst (xs ++ [(j, 0)]) := by simp [lst]
theorem lst_inc (xs : List PA) (n : Nat) : ((lst xs).eraseIdx n).map inc = lst ((xs.eraseIdx n).map incA) := by
  simp only [lst]
  induction xs generalizing n with
  | nil => simp
  | cons x xs ih =>
    cases n with
    | zero => simp [inc, incA]
    | succ n =>
      simp only [List.map_cons, List.eraseIdx_cons_succ, ih]
      simp [inc, incA]
theorem lst_get (xs : List PA) (n : Nat) (p : PA) (h : xs[n]? = some p) : (lst xs)[n]? = some ((p.1 : Int), (p.2 : Int)) := by simp [lst, h]

/-- How soon each is taken. -/
def Slack (K t : Nat) (xs : List PA) (ds : List Nat) : Prop := ∀ (j : Nat) (p : PA), xs[j]? = some p → ∃ d, ds[p.1]? = some d ∧ t + (K - p.2) + j + 1 ≤ d
def Sorted (xs : List PA) : Prop := xs.Pairwise fun a b => b.2 ≤ a.2

theorem idx_none {K : Nat} : ∀ (xs : List PA) (i : Nat), (∀ p ∈ xs, p.2 < K) → idxV (fun e : E => decide ((K : Int) ≤ e.2)) (lst xs) i = -1
  | [], i, _ => rfl
  | p :: xs, i, h => by
    have h1 := h p (by simp)
    simp only [lst, List.map_cons, idxV]
    rw [if_neg (by simp; omega)]
    exact idx_none xs (i + 1) (fun q hq => h q (by simp [hq]))

theorem next_cases {K : Nat} {xs : List PA} (hs : Sorted xs) (hne : xs ≠ []) (pick : Int) : (nextV K (lst xs) pick).toNat = 0 ∨ ∀ p ∈ xs, p.2 < K := by
  cases xs with
  | nil => exact absurd rfl hne
  | cons p xs =>
    by_cases h : K ≤ p.2
    · left
      have h1 : idxV (fun e : E => decide ((K : Int) ≤ e.2)) (lst (p :: xs)) 0 = 0 := by
        simp only [lst, List.map_cons, idxV]
        rw [if_pos (by simp; omega)]; rfl
      simp [nextV, h1]
    · right
      intro q hq
      simp only [List.mem_cons] at hq
      rcases hq with rfl | hq
      · omega
      · have := (List.pairwise_cons.1 hs).1 q hq
        omega

theorem sorted_take {xs : List PA} (hs : Sorted xs) (i : Nat) : Sorted ((xs.eraseIdx i).map incA) := by
  unfold Sorted at hs ⊢
  rw [List.pairwise_map]
  refine (hs.sublist (List.eraseIdx_sublist xs i)).imp ?_
  intro a b h
  simp only [incA]
  omega

theorem slack_take {K t : Nat} {xs : List PA} {ds : List Nat} (hs : Sorted xs) (hk : Slack K t xs ds) (hne : xs ≠ []) (pick : Int) : Slack K (t + 1) ((xs.eraseIdx (nextV K (lst xs) pick).toNat).map incA) ds := by
  intro j p hp
  rw [List.getElem?_map, Option.map_eq_some_iff] at hp
  obtain ⟨q, hq, rfl⟩ := hp
  have hq' := hq
  rw [List.getElem?_eraseIdx] at hq
  rcases next_cases hs hne pick with h0 | hall
  · rw [h0, if_neg (by omega)] at hq
    obtain ⟨d, h1, h2⟩ := hk _ _ hq
    exact ⟨d, h1, by simp only [incA]; omega⟩
  · have hqk := hall q (List.mem_of_mem_eraseIdx (List.mem_of_getElem? hq'))
    split at hq
    · obtain ⟨d, h1, h2⟩ := hk _ _ hq
      exact ⟨d, h1, by simp only [incA]; omega⟩
    · obtain ⟨d, h1, h2⟩ := hk _ _ hq
      exact ⟨d, h1, by simp only [incA]; omega⟩

theorem sorted_put {xs : List PA} (hs : Sorted xs) (j : Nat) : Sorted (xs ++ [(j, 0)]) := by
  unfold Sorted at hs ⊢
  rw [List.pairwise_append]
  refine ⟨hs, List.pairwise_singleton _ _, ?_⟩
  intro a _ b hb
  simp only [List.mem_cons, List.not_mem_nil, or_false] at hb
  subst hb
  simp

theorem slack_put {K t : Nat} {xs : List PA} {ds : List Nat} (hk : Slack K t xs ds) : Slack K t (xs ++ [(ds.length, 0)]) (ds ++ [t + K + xs.length + 1]) := by
  intro j p hp
  rw [List.getElem?_append] at hp
  split at hp
  · obtain ⟨d, h1, h2⟩ := hk _ _ hp
    refine ⟨d, ?_, h2⟩
    rw [List.getElem?_append_left (List.getElem?_eq_some_iff.1 h1).1]
    exact h1
  · have : j - xs.length = 0 := by
      rcases Nat.eq_zero_or_pos (j - xs.length) with h | h
      · exact h
      · rw [List.getElem?_eq_none (by simp; omega)] at hp; cases hp
    rw [this] at hp
    simp at hp
    subst hp
    exact ⟨t + K + xs.length + 1, by simp, by simp; omega⟩

/-! ### The slices -/
/-- A slice of bools that grows. -/
def GS (s : St) (v : V) (ga : Option Nat) (bs : List Bool) : Prop :=
  match ga with
  | none => bs = [] ∧ v = .sl .nil []
  | some g => v = .msl g 1 0 bs.length ∧ ∃ rest, s.obs[g]? = some (.arr 4 (bs.map V.bool ++ rest)) ∧ rest.all V.one = true

theorem GS.lt {s : St} {v : V} {ga : Option Nat} {bs : List Bool} (h : GS s v ga bs) : ∀ g, ga = some g → g < s.obs.length := by
  rintro g rfl
  obtain ⟨_, rest, h2, _⟩ := h
  exact obs_lt h2

theorem GS.frame {s s' : St} {v : V} {ga : Option Nat} {bs : List Bool} (h : GS s v ga bs) (ha : ∀ i, ga = some i → s'.obs[i]? = s.obs[i]?) : GS s' v ga bs := by
  cases ga with
  | none => exact h
  | some g =>
    obtain ⟨h1, rest, h2, h3⟩ := h
    exact ⟨h1, rest, by rw [ha g rfl]; exact h2, h3⟩

theorem bools_one (bs : List Bool) : (bs.map V.bool).all V.one = true := by
  induction bs with
  | nil => rfl
  | cons b bs ih =>
    simp only [List.map_cons, List.all_cons, ih, Bool.and_true]
    rfl

theorem gone_app {s : St} {v : V} {ga : Option Nat} {bs : List Bool} (h : GS s v ga bs) (hb : bs.length ≤ 1000000) :
    ∃ s' v' g', evAppm 1 (1, 4) v (.sl .no [.bool false]) s = some (v', s') ∧ GS s' v' (some g') (bs ++ [false]) ∧ s.obs.length ≤ s'.obs.length ∧ (ga = some g' ∨ s.obs.length ≤ g') ∧
      (∀ i, i < s.obs.length → ga ≠ some i → s'.obs[i]? = s.obs[i]?) ∧ s'.bufs = s.bufs ∧ v'.plain = v' := by
  have hsrc : srcCells 1 (.sl .no [.bool false]) s = some ([.bool false], 1) := by simp [srcCells, fits, V.one, V.cells]
  cases ga with
  | none =>
    obtain ⟨rfl, rfl⟩ := h
    refine ⟨{ s with obs := s.obs ++ [.arr 4 [.bool false]] }, .msl s.obs.length 1 0 1, s.obs.length, ?_, ⟨by simp, [], by simp, rfl⟩, by simp, by simp, ?_, rfl, rfl⟩
    · simp only [evAppm, hsrc]
      rw [if_neg (by decide), if_pos (by simp [room])]
    · intro i hi _
      simp [List.getElem?_append_left hi]
  | some g =>
    obtain ⟨rfl, rest, h2, h3⟩ := h
    have hg := obs_lt h2
    cases rest with
    | nil =>
      rw [List.append_nil] at h2
      refine ⟨{ s with obs := s.obs.set g .dead ++ [.arr 4 (bs.map V.bool ++ [.bool false])] }, .msl s.obs.length 1 0 (bs.length + 1), s.obs.length, ?_, ⟨by simp, [], by simp, rfl⟩, by simp, by simp, ?_, rfl, rfl⟩
      · simp only [evAppm, hsrc, h2]
        rw [if_neg (by decide), if_pos ⟨trivial, trivial⟩, if_neg (by simp), if_pos ⟨trivial, by simp, by simp [room]; omega, bools_one bs⟩]
      · intro i hi hgi
        have : g ≠ i := fun e => hgi (by rw [e])
        show (s.obs.set g .dead ++ _)[i]? = _
        rw [List.getElem?_append_left (by simpa using hi), List.getElem?_set_ne this]
    | cons r rest =>
      have hp : putL (bs.map V.bool ++ r :: rest) (0 + bs.length * 1) [.bool false] = (bs ++ [false]).map V.bool ++ rest := by
        rw [putL_eq _ _ _ (by simp), Nat.zero_add, Nat.mul_one, List.take_append_of_le_length (by simp), List.take_of_length_le (by simp), List.drop_append, List.drop_of_length_le (by simp)]
        simp
      refine ⟨{ s with obs := s.obs.set g (.arr 4 ((bs ++ [false]).map V.bool ++ rest)) }, .msl g 1 0 (bs.length + 1), g, ?_, ⟨by simp, rest, ?_, ?_⟩, by simp, by simp, ?_, rfl, rfl⟩
      · simp only [evAppm, hsrc, h2]
        rw [if_neg (by decide), if_pos ⟨trivial, trivial⟩, if_pos (by simp <;> omega), hp]
      · simp [hg]
      · rw [List.all_cons, Bool.and_eq_true] at h3
        exact h3.2
      · intro i hi hgi
        have : g ≠ i := fun e => hgi (by rw [e])
        simp [List.getElem?_set_ne this]

/-- A slice of numbers that grows, and is never written. -/
def DS (s : St) (o : Own) (n : Nat) : Prop := (n = 0 ∧ o = .nil) ∨ ∃ i, o = .buf i ∧ s.bufs[i]? = some (n, (8, 3))

def dsv (ds : List Nat) : List V := ds.map fun d : Nat => V.int .i64 (d : Int)
@[simp] theorem dsv_length (ds : List Nat) : (dsv ds).length = ds.length := by simp [dsv]
theorem dsv_get {ds : List Nat} {i d : Nat} (h : ds[i]? = some d) : (dsv ds)[i]? = some (.int .i64 (d : Int)) := by simp [dsv, h]
theorem dsv_plain (ds : List Nat) : plainL (dsv ds) = dsv ds := by
  induction ds with
  | nil => rfl
  | cons d ds ih => simp only [dsv, List.map_cons, plainL, V.plain] at ih ⊢; rw [ih]

theorem due_app {s : St} {o : Own} {ds : List Nat} (h : DS s o ds.length) (hd : ds.length ≤ 1000000) (d : Nat) :
    ∃ s' o', evApp false 1 (8, 3) (.sl o (dsv ds)) (.sl .no [.int .i64 (d : Int)]) s = some (.sl o' (dsv (ds ++ [d])), s') ∧ DS s' o' (ds ++ [d]).length ∧ s'.obs = s.obs := by
  have hf : fits 1 (dsv ds) = true := by cases ds <;> rfl
  have hc : fits 1 (dsv ds) = true ∧ fits 1 [V.int .i64 (d : Int)] = true ∧ ((dsv ds).length + [V.int .i64 (d : Int)].length) * (8, (3 : TypeId)).1 ≤ room := by
    refine ⟨hf, rfl, ?_⟩
    simp [room]
    omega
  rcases h with ⟨h0, rfl⟩ | ⟨i, rfl, hi⟩
  · have : ds = [] := List.length_eq_zero_iff.1 h0
    subst this
    refine ⟨{ s with bufs := s.bufs ++ [(1, (8, 3))] }, .buf s.bufs.length, ?_, .inr ⟨_, rfl, by simp⟩, rfl⟩
    simp only [evApp, appSrc]
    rw [if_neg (by simp), if_pos hc]
    simp [dsv]
  · refine ⟨{ s with bufs := s.bufs.set i (ds.length + 1, (8, 3)) }, .buf i, ?_, .inr ⟨i, rfl, ?_⟩, rfl⟩
    · simp only [evApp, appSrc]
      rw [if_neg (by simp), if_pos hc]
      simp [hi, dsv]
    · have := (List.getElem?_eq_some_iff.1 hi).1
      simp [this]

/-- What is told of a call. -/
abbrev OP := Bool × Int × List UInt8
def opV (o : OP) : V := .agg [.bool o.1, .int .i64 o.2.1, .str o.2.2]

theorem ld_ept (v : V) (vs : List V) (s : St) : evLoad none (.ept (v :: vs)) s = some (v, s) := rfl

theorem soonInner {s : St} {g t : Nat} {bs : List Bool} {rest : List V} {ds : List Nat} {o : Own} (hl : bs.length = ds.length) (hdl : ds.length ≤ 1000000) (h2 : s.obs[g]? = some (.arr 4 (bs.map V.bool ++ rest)))
    (hlive : ∀ m d : Nat, bs[m]? = some false → ds[m]? = some d → t < d) :
    ∀ (k m : Nat) (env : Env), ds.length - m = k → m ≤ ds.length → env 7 = .sl o (dsv ds) → env 8 = .msl g 1 0 bs.length → env 9 = .int .i64 t → env 13 = .int .i64 m →
      Out (evC G (.loop false af3l0) env s) (fun e env' s' => e = .exit 2 ∧ s' = s ∧ env' 1 = env 1 ∧ env' 5 = env 5 ∧ env' 6 = env 6 ∧ env' 7 = env 7 ∧ env' 8 = env 8 ∧ env' 9 = env 9 ∧ env' 10 = env 10) := by
  intro k
  induction k with
  | zero =>
    intro m env hm hi g7 g8 g9 g13
    have : m = ds.length := by omega
    subst this
    refine Out_loop G false _ _ af3l0.eq_1 _ _ _ ?_
    simp [g7, g13]
    refine Out_cond _ _ _ _ _ _ _ rfl (fun h => by simp at h) (fun _ => ?_)
    simp [g7]
  | succ k ihk =>
    intro m env hm hi g7 g8 g9 g13
    have hlt : m < ds.length := by omega
    have hltb : m < bs.length := by omega
    have hw : IntKind.i64.wrap ((m : Int) + 1) = ((m + 1 : Nat) : Int) := by rw [wrap_in (by omega) (by omega)]; omega
    have hdg := dsv_get (List.getElem?_eq_getElem hlt)
    have hld : evLoad none (.ptr g m) s = some (.bool bs[m], s) := by
      simp only [evLoad, h2, takeN]
      rw [List.head?_drop, List.getElem?_append_left (by simp; omega)]
      simp [hltb]
    refine Out_loop G false _ _ af3l0.eq_1 _ _ _ ?_
    simp [g7, g13]
    refine Out_cond _ _ _ _ _ _ _ rfl (fun _ => ?_) (fun h => by simp at h; omega)
    generalize hbm : bs[m] = bm at hld
    cases bm with
    | true =>
      simp [g8, g13, hltb, hld]
      refine Out_cond _ _ _ _ _ _ _ rfl (fun h => by simp at h) (fun _ => ?_)
      simp [g13, hw]
      refine Out.mono (ihk (m + 1) _ (by omega) (by omega) ?_ ?_ ?_ ?_) ?_
      · simp [g7]
      · simp [g8]
      · simp [g9]
      · simp
      · rintro e env' s' ⟨rfl, rfl, h1, h5, h6, h7, h8, h9, h10⟩
        refine ⟨rfl, rfl, ?_, ?_, ?_, ?_, ?_, ?_, ?_⟩
        · rw [h1]; simp
        · rw [h5]; simp
        · rw [h6]; simp
        · rw [h7]; simp [g7]
        · rw [h8]; simp [g8]
        · rw [h9]; simp [g9]
        · rw [h10]; simp
    | false =>
      have hlt2 := hlive m ds[m] (by rw [List.getElem?_eq_getElem hltb, hbm]) (List.getElem?_eq_getElem hlt)
      have hnd : ¬ ((ds[m] : Nat) : Int) ≤ t := by omega
      simp [g8, g13, hltb, hld, g9, g7, hdg, ld_ept]
      refine Out_cond _ _ _ _ _ _ _ rfl (fun h => by simp at h; omega) (fun _ => ?_)
      simp [g13, hw]
      refine Out.mono (ihk (m + 1) _ (by omega) (by omega) ?_ ?_ ?_ ?_) ?_
      · simp [g7]
      · simp [g8]
      · simp [g9]
      · simp
      · rintro e env' s' ⟨rfl, rfl, h1, h5, h6, h7, h8, h9, h10⟩
        refine ⟨rfl, rfl, ?_, ?_, ?_, ?_, ?_, ?_, ?_⟩
        · rw [h1]; simp
        · rw [h5]; simp
        · rw [h6]; simp
        · rw [h7]; simp [g7]
        · rw [h8]; simp [g8]
        · rw [h9]; simp [g9]
        · rw [h10]; simp

structure SoonI (s : St) (q : Nat) (qa : Option Nat) (K : Nat) (xs : List PA) (v : V) (ga : Option Nat) (bs : List Bool) (o : Own) (ds : List Nat) (t i : Nat) : Prop where
  hq : QS s q qa K (lst xs)
  hg : GS s v ga bs
  n1 : ∀ g, ga = some g → g ≠ q ∧ qa ≠ some g
  hd : DS s o ds.length
  hl : bs.length = ds.length
  live : ∀ m : Nat, bs[m]? = some false → ∃ a, (m, a) ∈ xs
  mem : ∀ p ∈ xs, bs[p.1]? = some false
  nd : (xs.map (·.1)).Nodup
  so : Sorted xs
  sl : Slack K t xs ds
  age : ∀ p ∈ xs, p.2 ≤ t
  dl : ds.length ≤ i
  xl : xs.length ≤ i
  tl : t ≤ i

theorem SoonI.put {s : St} {q : Nat} {qa : Option Nat} {K : Nat} {xs : List PA} {v : V} {ga : Option Nat} {bs : List Bool} {o : Own} {ds : List Nat} {t i : Nat} (h : SoonI s q qa K xs v ga bs o ds t i) (hi : i ≤ 60) :
    ∃ s1 o' s2 v' g' s3 a3, evApp false 1 (8, 3) (.sl o (dsv ds)) (.sl .no [.int .i64 ((t + K + xs.length + 1 : Nat) : Int)]) s = some (.sl o' (dsv (ds ++ [t + K + xs.length + 1])), s1) ∧ evAppm 1 (1, 4) v (.sl .no [.bool false]) s1 = some (v', s2) ∧
      call G 9 [.ptr q 0, .int .i64 (ds.length : Int)] s2 = some (.tup [], s3) ∧ SoonI s3 q (some a3) K (xs ++ [(ds.length, 0)]) v' (some g') (bs ++ [false]) o' (ds ++ [t + K + xs.length + 1]) t (i + 1) := by
  have hlq := h.hq.lt
  have hlg := h.hg.lt
  have hil := h.dl
  have hixl := h.xl
  obtain ⟨s1, o', c1, hd1, ho1⟩ := due_app h.hd (by omega) (t + K + xs.length + 1)
  have hg1 : GS s1 v ga bs := h.hg.frame (fun i _ => by rw [ho1])
  obtain ⟨s2, v', g', c2, hg2, hle2, hg', hf2, hb2, _⟩ := gone_app hg1 (by rw [h.hl]; omega)
  rw [ho1] at hle2 hg' hf2
  have hq2 : QS s2 q qa K (lst xs) := h.hq.frame (hf2 q hlq.1 (fun e => (h.n1 q e).1 rfl)) (fun i hi => hf2 i (hlq.2 i hi).1 (fun e => (h.n1 i e).2 hi))
  obtain ⟨s3, a3, c3, hq3, hle3, ha3, hf3, hb3⟩ := put_spec hq2 (ds.length : Int) (by simp; omega)
  have hgq : g' ≠ q := by
    rcases hg' with e | e
    · exact (h.n1 g' e).1
    · have := hlq.1
      omega
  have hgl := hg2.lt g' rfl
  have hgqa : qa ≠ some g' := by
    intro e
    rcases hg' with e' | e'
    · exact (h.n1 g' e').2 e
    · have := (hlq.2 g' e).1
      omega
  refine ⟨s1, o', s2, v', g', s3, a3, c1, c2, c3, ?_⟩
  have hmm : ∀ p ∈ xs, p.1 < ds.length := fun p hp => by
    have := (List.getElem?_eq_some_iff.1 (h.mem p hp)).1
    rw [h.hl] at this
    exact this
  constructor
  · rw [← lst_snoc]; exact hq3
  · exact hg2.frame (fun i hi => by cases hi; exact hf3 g' hgl hgq hgqa)
  · rintro g hg
    cases hg
    refine ⟨hgq, fun e => ?_⟩
    cases e
    rcases ha3 with e | e
    · exact hgqa e
    · omega
  · have : DS s3 o' (ds ++ [t + K + xs.length + 1]).length := by
      unfold DS at hd1 ⊢
      rw [hb3, hb2]
      exact hd1
    exact this
  · simp [h.hl]
  · intro m hm
    rw [List.getElem?_append] at hm
    split at hm
    · obtain ⟨a, ha⟩ := h.live m hm
      exact ⟨a, by simp [ha]⟩
    · have : m - bs.length = 0 := by
        rcases Nat.eq_zero_or_pos (m - bs.length) with h | h
        · exact h
        · rw [List.getElem?_eq_none (by simp; omega)] at hm; cases hm
      have he : m = ds.length := by have := h.hl; omega
      exact ⟨0, by simp [he]⟩
  · intro p hp
    simp only [List.mem_append, List.mem_cons, List.not_mem_nil, or_false] at hp
    rcases hp with hp | rfl
    · rw [List.getElem?_append_left (by rw [h.hl]; exact hmm p hp)]
      exact h.mem p hp
    · simp [← h.hl]
  · rw [List.map_append, List.nodup_append]
    refine ⟨h.nd, by simp, ?_⟩
    intro a ha b hb
    simp only [List.map_cons, List.map_nil, List.mem_cons, List.not_mem_nil, or_false] at hb
    obtain ⟨p, hp, rfl⟩ := List.mem_map.1 ha
    have := hmm p hp
    omega
  · exact sorted_put h.so _
  · exact slack_put h.sl
  · intro p hp
    simp only [List.mem_append, List.mem_cons, List.not_mem_nil, or_false] at hp
    rcases hp with hp | rfl
    · exact h.age p hp
    · simp
  · simp; omega
  · simp; omega
  · have := h.tl; omega
end Go.Proofs.Ytaljmhlblanhaaa.Eng
