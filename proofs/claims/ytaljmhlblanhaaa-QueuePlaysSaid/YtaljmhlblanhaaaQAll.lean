/-
  The statement QueueAll, over values. No condition.
-/
import Derived.Test.YtaljmhlblanhaaaQSpec3
namespace Go.Proofs.Ytaljmhlblanhaaa.Eng
open Go
set_option linter.unusedSimpArgs false
set_option linter.unusedVariables false

attribute [local simp] evC_reg evC_regD evR_cons evR_nil runR_some regK_some evC_ret evC_skip evC_exit Out_seq Out_blk Out_some seqQ_norm seqQ_ret seqQ_exit blkQ_norm blkQ_ret blkQ_exit loopQ_norm loopQ_ret loopQ_exit
attribute [local simp] stepR evOp put upd_apply X.ev initEnv cells_agg cells_int cells_str cells_bool cells_sl cells_ptr cells_pnil cells_fn cells_map takeN evBin isSh intBin strBin callK resOf packR fin V.plain plainL V.und undL scK kill dstsO dstsL dstsR ite_some ite_pair ite_vbool evUn evLen V.real finLoop_false quietK_false kill_none

theorem nextV_zero (p : Int) (L : List E) (pick : Int) (hp : p ≤ 0) (h : ∀ e ∈ L, 0 ≤ e.2) (hne : L ≠ []) : nextV p L pick = 0 := by
  cases L with
  | nil => exact absurd rfl hne
  | cons e L =>
    have := h e (by simp)
    have h1 : idxV (fun e : E => decide (p ≤ e.2)) (e :: L) 0 = 0 := by
      rw [idxV, if_pos (by simp; omega)]; rfl
    simp [nextV, h1]

theorem next_one (p : Int) (e : E) (pick : Int) : ([] ++ [e])[(nextV p ([] ++ [e]) pick).toNat]? = some e := by
  have h := nextV_lt p ([] ++ [e]) pick (by simp)
  have h0 : (nextV p ([] ++ [e]) pick).toNat = 0 := by simp at h ⊢; omega
  rw [h0]; rfl

theorem awake_spec (s : St) : ∃ s', call G 6 [] s = some (.bool true, s') := by
  obtain ⟨s1, h1, q1, _, _, _⟩ := new_spec 2 s
  obtain ⟨s2, a, h2, q2, _, _, _, _⟩ := put_spec q1 (7 : Int) (by simp)
  obtain ⟨s3, h3, q3, _, _, _⟩ := take_spec q2 (by simp) (by simp) 0 ((7 : Int), 0) (next_one _ _ _)
  refine ⟨s3, call_out (F := af6) rfl rfl ?_⟩
  simp [af6, af6b, h1, evEqp]
  refine Out_cond _ _ _ _ _ _ _ rfl (fun h => by simp at h) (fun _ => ?_)
  simp [h2, h3]

/-- Two queues, apart. -/
structure Two (s : St) (q : Nat) (qa : Option Nat) (p : Int) (L : List E) (z : Nat) (za : Option Nat) (p' : Int) (M : List E) : Prop where
  hq : QS s q qa p L
  hz : QS s z za p' M
  ne : q ≠ z
  n1 : ∀ i, qa = some i → i ≠ z
  n2 : ∀ i, za = some i → i ≠ q
  n3 : ∀ i, qa = some i → za ≠ some i

theorem Two.swap {s : St} {q : Nat} {qa : Option Nat} {p : Int} {L : List E} {z : Nat} {za : Option Nat} {p' : Int} {M : List E} (h : Two s q qa p L z za p' M) : Two s z za p' M q qa p L :=
  ⟨h.hz, h.hq, h.ne.symm, h.n2, h.n1, fun i hi hj => h.n3 i hj hi⟩

theorem Two.put {s : St} {q : Nat} {qa : Option Nat} {p : Int} {L : List E} {z : Nat} {za : Option Nat} {p' : Int} {M : List E} (h : Two s q qa p L z za p' M) (x : T) (hL : L.length ≤ 1000000) :
    ∃ s' a', call G 9 [.ptr q 0, tv x] s = some (.tup [], s') ∧ Two s' q (some a') p (L ++ [(x, 0)]) z za p' M := by
  obtain ⟨s', a', hc, hq, hle, ha, hf, _⟩ := put_spec h.hq x hL
  have hl1 := h.hq.lt
  have hl2 := h.hz.lt
  refine ⟨s', a', hc, hq, h.hz.frame (hf z hl2.1 h.ne.symm (fun e => h.n1 z e rfl)) (fun i hi => hf i (hl2.2 i hi).1 (h.n2 i hi) (fun e => h.n3 i e hi)), h.ne, ?_, h.n2, ?_⟩
  · rintro i hi
    cases hi
    rcases ha with ha | ha
    · exact h.n1 _ ha
    · have := hl2.1
      omega
  · rintro i hi hz
    cases hi
    rcases ha with ha | ha
    · exact h.n3 _ ha hz
    · have := (hl2.2 _ hz).1
      omega

theorem Two.take {s : St} {q : Nat} {a : Nat} {p : Int} {L : List E} {z : Nat} {za : Option Nat} {p' : Int} {M : List E} (h : Two s q (some a) p L z za p' M) (hL : L.length ≤ 1000000) (hage : ∀ e ∈ L, 0 ≤ e.2 ∧ e.2 ≤ 1000000) (pick : Int) (e : E)
    (he : L[(nextV p L pick).toNat]? = some e) :
    ∃ s', call G 10 [.ptr q 0, .int .i64 pick] s = some (.tup [tv e.1, .bool true], s') ∧ Two s' q (some a) p ((L.eraseIdx (nextV p L pick).toNat).map inc) z za p' M ∧
      (∀ i, i ≠ q → i ≠ a → s'.obs[i]? = s.obs[i]?) := by
  obtain ⟨s', hc, hq, hle, hf, _⟩ := take_spec h.hq hL hage pick e he
  refine ⟨s', hc, ⟨hq, h.hz.frame (hf z h.ne.symm (fun e => h.n1 a rfl e.symm)) (fun i hi => hf i (h.n2 i hi) (fun e => h.n3 a rfl (e ▸ hi))), h.ne, h.n1, h.n2, h.n3⟩, hf⟩

/-- Things of one age. -/
def at_ (xs : List Nat) (i : Nat) : List E := xs.map fun j : Nat => ((j : Int), (i : Int))

@[simp] theorem at_length (xs : List Nat) (i : Nat) : (at_ xs i).length = xs.length := by simp [at_]
theorem at_snoc (xs : List Nat) (j : Nat) : at_ xs 0 ++ [((j : Int), 0)] = at_ (xs ++ [j]) 0 := by simp [at_]
theorem at_inc (xs : List Nat) (i n : Nat) : ((at_ xs i).eraseIdx n).map inc = at_ (xs.eraseIdx n) (i + 1) := by
  simp only [at_]
  induction xs generalizing n with
  | nil => simp
  | cons x xs ih =>
    cases n with
    | zero => simp [inc]
    | succ n =>
      simp only [List.map_cons, List.eraseIdx_cons_succ, ih]
      simp [inc]
theorem at_age (xs : List Nat) (i : Nat) (h : i ≤ 1000000) : ∀ e ∈ at_ xs i, 0 ≤ e.2 ∧ e.2 ≤ 1000000 := by
  intro e he
  simp only [at_, List.mem_map] at he
  obtain ⟨j, _, rfl⟩ := he
  simp
  omega

theorem putLoop {q z : Nat} {p p' : Int} {k : Nat} (hk : k ≤ 40) : ∀ (m i : Nat) (s : St) (env : Env) (qa za : Option Nat), k - i = m → i ≤ k → Two s q qa p (at_ (List.range i) 0) z za p' (at_ (List.range i) 0) →
    env 7 = .int .i64 k → env 8 = .ptr q 0 → env 9 = .ptr z 0 → env 10 = .int .i64 i →
      Out (evC G (.loop false af4l0) env s) (fun e env' s' => e = .exit 0 ∧ env' 7 = env 7 ∧ env' 8 = env 8 ∧ env' 9 = env 9 ∧ env' 2 = env 2 ∧ ∃ qa za, Two s' q qa p (at_ (List.range k) 0) z za p' (at_ (List.range k) 0)) := by
  intro m
  induction m with
  | zero =>
    intro i s env qa za hm hi hT g7 g8 g9 g10
    have : i = k := by omega
    subst this
    refine Out_loop G false _ _ af4l0.eq_1 _ _ _ ?_
    simp [g7, g10]
    refine Out_cond _ _ _ _ _ _ _ rfl (fun h => by simp at h) (fun _ => ?_)
    simp
    exact ⟨g7, qa, za, hT⟩
  | succ m ihm =>
    intro i s env qa za hm hi hT g7 g8 g9 g10
    obtain ⟨s1, a1, c1, hT1⟩ := hT.put (i : Int) (by simp; omega)
    obtain ⟨s2, a2, c2, hT2⟩ := hT1.swap.put (i : Int) (by simp; omega)
    rw [at_snoc, ← List.range_succ] at hT2
    have hw : IntKind.i64.wrap ((i : Int) + 1) = ((i + 1 : Nat) : Int) := by rw [wrap_in (by omega) (by omega)]; omega
    refine Out_loop G false _ _ af4l0.eq_1 _ _ _ ?_
    simp [g7, g10]
    refine Out_cond _ _ _ _ _ _ _ rfl (fun _ => ?_) (fun h => by simp at h; omega)
    simp [g8, g9, g10, c1, c2, hw]
    refine (ihm (i + 1) s2 _ _ _ (by omega) (by omega) hT2.swap (by simp [g7]) (by simp [g8]) (by simp [g9]) (by simp)).mono ?_
    rintro e env' s' ⟨rfl, h7, h8, h9, h2, h⟩
    refine ⟨rfl, ?_, ?_, ?_, ?_, h⟩
    · rw [h7]; simp [g7]
    · rw [h8]; simp [g8]
    · rw [h9]; simp [g9]
    · rw [h2]; simp

theorem mapErase {α β : Type} (f : α → β) : ∀ (l : List α) (n : Nat), (l.eraseIdx n).map f = (l.map f).eraseIdx n
  | [], n => by simp
  | x :: l, 0 => by simp
  | x :: l, n + 1 => by simp [mapErase f l n]

theorem nodup_erase {α : Type} : ∀ (l : List α) (i : Nat) (x : α), l.Nodup → l[i]? = some x → x ∉ l.eraseIdx i ∧ (l.eraseIdx i).Nodup
  | [], i, x, _, h => by simp at h
  | y :: l, 0, x, hn, h => by
    simp at h hn ⊢
    subst h
    exact hn
  | y :: l, i + 1, x, hn, h => by
    simp only [List.nodup_cons] at hn
    simp only [List.getElem?_cons_succ] at h
    obtain ⟨h1, h2⟩ := nodup_erase l i x hn.2 h
    have hx : x ∈ l := List.mem_of_getElem? h
    simp only [List.eraseIdx_cons_succ, List.mem_cons, not_or, List.nodup_cons]
    exact ⟨⟨fun e => hn.1 (e ▸ hx), h1⟩, fun hy => hn.1 (List.mem_of_mem_eraseIdx hy), h2⟩

theorem takeLoop {q z sid : Nat} {p : Int} {k : Nat} {picks : List Int} (hk : k ≤ 40) : ∀ (m i : Nat) (s : St) (env : Env) (qa za : Option Nat) (xs : List Nat) (bs : List Bool), k - i = m → i ≤ k →
    Two s q qa p (at_ xs i) z za 0 (at_ (List.range' i (k - i)) i) → xs.length = k - i → xs.Nodup → (∀ j ∈ xs, bs[j]? = some false) → bs.length = k → s.obs[sid]? = some (.arr 4 (bs.map V.bool)) → sid ≠ q → sid ≠ z → (∀ j, qa = some j → j ≠ sid) → (∀ j, za = some j → j ≠ sid) →
    env 2 = .sl .no (picks.map (V.int .i64)) → env 7 = .int .i64 k → env 8 = .ptr q 0 → env 9 = .ptr z 0 → env 11 = .msl sid 1 0 k → env 12 = .int .i64 i →
      Out (evC G (.loop false af4l1) env s) (fun e env' s' => e = .exit 2 ∧ env' 8 = env 8 ∧ env' 9 = env 9 ∧ ∃ qa za, QS s' q qa p [] ∧ QS s' z za 0 []) := by
  intro m
  induction m with
  | zero =>
    intro i s env qa za xs bs hm hi hT hxl hnd hb hbl hs hsq hsz hsa hsz' g2 g7 g8 g9 g11 g12
    have : i = k := by omega
    subst this
    refine Out_loop G false _ _ af4l1.eq_1 _ _ _ ?_
    simp [g7, g12]
    refine Out_cond _ _ _ _ _ _ _ rfl (fun h => by simp at h) (fun _ => ?_)
    have hxs : xs = [] := List.length_eq_zero_iff.1 (by omega)
    subst hxs
    have h1 := hT.hq
    have h2 := hT.hz
    simp [at_] at h1 h2
    simp
    exact ⟨⟨qa, h1⟩, za, h2⟩
  | succ m ihm =>
    intro i s env qa za xs bs hm hi hT hxl hnd hb hbl hs hsq hsz hsa hsz' g2 g7 g8 g9 g11 g12
    have hxl1 : 0 < xs.length := by omega
    have hM : List.range' i (k - i) ≠ [] := by
      have : k - i = (k - i - 1) + 1 := by omega
      rw [this]; simp [List.range']
    obtain ⟨a, rfl⟩ : ∃ a, qa = some a := by
      cases qa with
      | none =>
        have := hT.hq.1
        have := congrArg List.length this
        simp only [at_length, List.length_nil] at this
        omega
      | some a => exact ⟨a, rfl⟩
    obtain ⟨b, rfl⟩ : ∃ b, za = some b := by
      cases za with
      | none =>
        have := hT.hz.1
        have := congrArg List.length this
        simp only [at_length, List.length_range', List.length_nil] at this
        omega
      | some b => exact ⟨b, rfl⟩
    have hLq : at_ xs i ≠ [] := fun h => by have := congrArg List.length h; simp only [at_length, List.length_nil] at this; omega
    have hLz : at_ (List.range' i (k - i)) i ≠ [] := fun h => by have := congrArg List.length h; simp only [at_length, List.length_range', List.length_nil] at this; omega
    have hcall : ∀ pick : Int, ∃ (j : Nat) (s2 : St) (n : Nat), xs[n]? = some j ∧ ∃ s1, call G 10 [.ptr q 0, .int .i64 pick] s = some (.tup [.int .i64 j, .bool true], s1) ∧ call G 10 [.ptr z 0, .int .i64 pick] s1 = some (.tup [.int .i64 i, .bool true], s2) ∧
        Two s2 q (some a) p (at_ (xs.eraseIdx n) (i + 1)) z (some b) 0 (at_ (List.range' (i + 1) (k - (i + 1))) (i + 1)) ∧ s2.obs[sid]? = s.obs[sid]? := by
      intro pick
      have hb1 := nextV_lt p (at_ xs i) pick hLq
      generalize hn : (nextV p (at_ xs i) pick).toNat = n
      have hnl : n < xs.length := by rw [at_length] at hb1; omega
      have hxn : xs[n]? = some xs[n] := List.getElem?_eq_getElem hnl
      have he : (at_ xs i)[n]? = some ((xs[n] : Int), (i : Int)) := by simp [at_, hxn]
      obtain ⟨s1, c1, hT1, hf1⟩ := hT.take (by simp; omega) (at_age xs i (by omega)) pick _ (by rw [hn]; exact he)
      rw [hn, at_inc] at hT1
      have hz0 := nextV_zero 0 (at_ (List.range' i (k - i)) i) pick (by omega) (fun e he => (at_age _ i (by omega) e he).1) hLz
      have hrg : List.range' i (k - i) = i :: List.range' (i + 1) (k - (i + 1)) := by
        have : k - i = (k - (i + 1)) + 1 := by omega
        rw [this]; rfl
      have hez : (at_ (List.range' i (k - i)) i)[(nextV 0 (at_ (List.range' i (k - i)) i) pick).toNat]? = some ((i : Int), (i : Int)) := by
        rw [hz0, hrg]; rfl
      obtain ⟨s2, c2, hT2, hf2⟩ := hT1.swap.take (by simp; omega) (at_age _ i (by omega)) pick _ hez
      rw [hz0, at_inc, hrg] at hT2
      refine ⟨xs[n], s2, n, hxn, s1, c1, c2, hT2.swap, ?_⟩
      rw [hf2 sid hsz (fun e => hsz' b rfl e.symm), hf1 sid hsq (fun e => hsa a rfl e.symm)]
    refine Out_loop G false _ _ af4l1.eq_1 _ _ _ ?_
    simp [g7, g12]
    refine Out_cond _ _ _ _ _ _ _ rfl (fun _ => ?_) (fun h => by simp at h; omega)
    simp [g2, g12]
    refine Out.mono (Q := fun e env' s' => e = .norm ∧ s' = s ∧ (∃ v : Int, env' 13 = .int .i64 v) ∧ env' 2 = env 2 ∧ env' 7 = env 7 ∧ env' 8 = env 8 ∧ env' 9 = env 9 ∧ env' 11 = env 11 ∧ env' 12 = env 12) ?_ ?_
    · refine Out_cond _ _ _ _ _ _ _ rfl (fun h => ?_) (fun _ => ?_)
      · have hlt : i < picks.length := by simpa using h
        simp [g2, g12, hlt, evLoad]
      · simp
    rintro e env1 s1' ⟨rfl, rfl, ⟨v, e13⟩, e2, e7, e8, e9, e11, e12⟩
    obtain ⟨j, s2, n, hxn, s1, c1, c2, hT2, hs2⟩ := hcall v
    have hjb := hb j (List.mem_of_getElem? hxn)
    have hjk : j < k := by have := (List.getElem?_eq_some_iff.1 hjb).1; omega
    rw [hs] at hs2
    have hld : evLoad none (.ptr sid j) s2 = some (.bool false, s2) := by
      simp [evLoad, hs2, List.head?_drop, hjb]
    have hset : putL (bs.map V.bool) j [.bool true] = (bs.map V.bool).set j (.bool true) := rfl
    have hst : evStore 1 (.ptr sid j) (.bool true) s2 = some (.tup [], ⟨s2.obs.set sid (.arr 4 ((bs.map V.bool).set j (.bool true))), s2.bufs⟩) := by
      simp only [evStore, hs2]
      rw [if_pos ⟨rfl, by simp; omega, rfl⟩]
      simp only [cells_bool, hset]
    have hji : (j : Int) < k := by omega
    have hj0 : ¬ (j : Int) < 0 := by omega
    have hjn : ¬ (k : Int) ≤ j := by omega
    have hw : IntKind.i64.wrap ((i : Int) + 1) = ((i + 1 : Nat) : Int) := by rw [wrap_in (by omega) (by omega)]; omega
    obtain ⟨hnj, hnd'⟩ := nodup_erase xs n j hnd hxn
    simp [e13, e8, g8, e9, g9, c1, c2, e12, g12, e7, g7, hj0, hjn, e11, g11, hji, hjk, hld]
    refine Out_cond _ _ _ _ _ _ _ rfl (fun h => by simp at h) (fun _ => ?_)
    simp [e11, g11, hjk, hst, e12, g12, hw]
    refine Out.mono (ihm (i + 1) ⟨s2.obs.set sid (.arr 4 ((bs.map V.bool).set j (.bool true))), s2.bufs⟩ _ (some a) (some b) (xs.eraseIdx n) (bs.set j true) (by omega) (by omega) ?_ ?_ hnd' ?_ (by simp [hbl]) ?_ hsq hsz hsa hsz' ?_ ?_ ?_ ?_ ?_ ?_) ?_
    · exact ⟨hT2.hq.frame (List.getElem?_set_ne hsq) (fun i hi => List.getElem?_set_ne (Ne.symm (hsa i hi))), hT2.hz.frame (List.getElem?_set_ne hsz) (fun i hi => List.getElem?_set_ne (Ne.symm (hsz' i hi))), hT2.ne, hT2.n1, hT2.n2, hT2.n3⟩
    · rw [List.length_eraseIdx, if_pos (List.getElem?_eq_some_iff.1 hxn).1]
      omega
    · intro j' hj'
      have : j ≠ j' := fun e => hnj (e ▸ hj')
      rw [List.getElem?_set_ne this]
      exact hb j' (List.mem_of_mem_eraseIdx hj')
    · rw [List.getElem?_set_self (obs_lt hs2), List.map_set]
    · simp [e2, g2]
    · simp [e7, g7]
    · simp [e8, g8]
    · simp [e9, g9]
    · simp [e11, g11]
    · simp
    · rintro e env' s' ⟨rfl, h8, h9, qa', za', hq', hz'⟩
      refine ⟨rfl, ?_, ?_, ⟨qa', hq'⟩, za', hz'⟩
      · rw [h8]; simp [e8, g8]
      · rw [h9]; simp [e9, g9]

/-- QueueAll is true, whatever it is given. -/
theorem all_spec (n pt : Int) (picks : List Int) (hn : 0 ≤ n) (hn' : n < 256) (hp : 0 ≤ pt) (hp' : pt < 256) (s : St) : ∃ s', call G 4 [.int .u8 n, .int .u8 pt, .sl .no (picks.map (V.int .i64))] s = some (.bool true, s') := by
  obtain ⟨s1, h1⟩ := awake_spec s
  obtain ⟨s2, h2, q2, l2, f2, _⟩ := new_spec pt s1
  obtain ⟨s3, h3, q3, l3, f3, _⟩ := new_spec 0 s2
  have hz : (if (0 : Int) > 0 then 0 else 0) = (0 : Int) := by simp
  rw [hz] at q3
  generalize (if 0 > pt then 0 else pt) = p at q2
  have hT : Two s3 s1.obs.length none p (at_ (List.range 0) 0) s2.obs.length none 0 (at_ (List.range 0) 0) :=
    ⟨q2.frame (f3 _ (by omega)) (fun i hi => by cases hi), q3, by omega, (fun i hi => by cases hi), (fun i hi => by cases hi), (fun i hi => by cases hi)⟩
  obtain ⟨k, hk⟩ : ∃ k : Nat, n.tmod 41 = k := ⟨(n.tmod 41).toNat, by have := Int.tmod_nonneg (a := n) 41 hn; omega⟩
  have hk40 : k ≤ 40 := by have := Int.tmod_lt_of_pos n (b := 41) (by omega); omega
  have w1 : IntKind.i64.wrap (k : Int) = k := wrap_in (by omega) (by omega)
  have w2 : IntKind.i64.wrap pt = pt := wrap_in (by omega) (by omega)
  have hpl : plainL (picks.map (V.int .i64)) = picks.map (V.int .i64) := by
    induction picks with
    | nil => rfl
    | cons x xs ih => simp [plainL, V.plain, ih]
  have hrep : (List.replicate k [V.bool false]).flatten = (List.replicate k false).map V.bool := by
    generalize k = m
    induction m with
    | zero => rfl
    | succ m ih => simp only [List.replicate_succ, List.flatten_cons, List.map_cons, ih]; rfl
  suffices h : Out (evC G af4b (initEnv [.int .u8 n, .int .u8 pt, .sl .no (picks.map (V.int .i64))]) s) (fun e env s' => e = .ret ∧ env 6 = .bool true) by
    obtain ⟨e, env, s', h, rfl, h6⟩ := h
    refine ⟨s', call_out (F := af4) rfl rfl ⟨_, _, _, h, ?_⟩⟩
    simp [af4, h6]
  simp [af4b, h1]
  refine Out_cond _ _ _ _ _ _ _ rfl (fun h => by simp at h) (fun _ => ?_)
  simp [hk, w1, w2, h2, h3]
  refine Out.mono (putLoop (q := s1.obs.length) (z := s2.obs.length) (p := p) (p' := 0) hk40 k 0 s3 _ none none (by omega) (by omega) hT ?_ ?_ ?_ ?_) ?_
  · simp
  · simp
  · simp
  · simp
  rintro e env1 s4 ⟨rfl, e7, e8, e9, e2, qa, za, hT4⟩
  simp at e7 e8 e9 e2
  have hlq := hT4.hq.lt
  have hlz := hT4.hz.lt
  have hmk : evMks 1 (1, 4) (.bool false) (.int .i64 k) (.int .i64 k) s4 = some (.msl s4.obs.length 1 0 k, { s4 with obs := s4.obs ++ [.arr 4 ((List.replicate k false).map V.bool)] }) := by
    simp only [evMks, cells_bool, Int.toNat_natCast]
    rw [hrep, if_pos ⟨trivial, by omega, by simp [room]; omega⟩]
  simp [e7, hmk, -List.map_replicate]
  refine Out.mono (takeLoop (q := s1.obs.length) (z := s2.obs.length) (sid := s4.obs.length) (p := p) (picks := picks) hk40 k 0 _ _ qa za (List.range k) (List.replicate k false) (by omega) (by omega) ?_ (by simp) List.nodup_range ?_ (by simp) ?_ ?_ ?_ ?_ ?_ ?_ ?_ ?_ ?_ ?_ ?_) ?_
  · have hr : List.range' 0 (k - 0) = List.range k := by rw [Nat.sub_zero, List.range_eq_range']
    rw [hr]
    exact ⟨hT4.hq.frame (List.getElem?_append_left hlq.1) (fun i hi => List.getElem?_append_left (hlq.2 i hi).1), hT4.hz.frame (List.getElem?_append_left hlz.1) (fun i hi => List.getElem?_append_left (hlz.2 i hi).1), hT4.ne, hT4.n1, hT4.n2, hT4.n3⟩
  · intro j hj
    have : j < k := List.mem_range.1 hj
    simp [this]
  · simp
  · omega
  · omega
  · intro j hj
    have := (hlq.2 j hj).1
    omega
  · intro j hj
    have := (hlz.2 j hj).1
    omega
  · simp [e2]
  · simp [e7]
  · simp [e8]
  · simp [e9]
  · simp
  · simp
  rintro e env2 s5 ⟨rfl, f8, f9, qa', za', hq5, hz5⟩
  simp [e8, e9] at f8 f9
  have c1 := take_none hq5 0
  have c2 := len_spec hq5
  have c3 := len_spec hz5
  simp [f8, f9, c1, c2, c3]
end Go.Proofs.Ytaljmhlblanhaaa.Eng
