/-
  The statement QueueSoon, over values: the whole. No condition.
-/
import Derived.Test.YtaljmhlblanhaaaQSoon2
namespace Go.Proofs.Ytaljmhlblanhaaa.Eng
open Go
set_option linter.unusedSimpArgs false
set_option linter.unusedVariables false

attribute [local simp] evC_reg evC_regD evR_cons evR_nil runR_some regK_some evC_ret evC_skip evC_exit Out_seq Out_blk Out_some seqQ_norm seqQ_ret seqQ_exit blkQ_norm blkQ_ret blkQ_exit loopQ_norm loopQ_ret loopQ_exit
attribute [local simp] stepR evOp put upd_apply X.ev initEnv cells_agg cells_int cells_str cells_bool cells_sl cells_ptr cells_pnil cells_fn cells_map takeN evBin isSh intBin strBin callK resOf packR fin V.plain plainL V.und undL scK kill dstsO dstsL dstsR ite_some ite_pair ite_vbool evUn evLen V.real finLoop_false quietK_false kill_none

def opsv (ops : List OP) : List V := ops.map opV
@[simp] theorem opsv_length (ops : List OP) : (opsv ops).length = ops.length := by simp [opsv]
theorem opsv_get {ops : List OP} {i : Nat} {b : Bool} {pk : Int} {sx : List UInt8} (h : ops[i]? = some (b, pk, sx)) : (opsv ops)[i]? = some (.agg [.bool b, .int .i64 pk, .str sx]) := by simp [opsv, h, opV]

theorem soonLoop {q K : Nat} {ops : List OP} (hK : K ≤ 10) (hops : ops.length ≤ 60) : ∀ (m i : Nat) (s : St) (env : Env) (qa : Option Nat) (xs : List PA) (v : V) (ga : Option Nat) (bs : List Bool) (o : Own) (ds : List Nat) (t : Nat),
    ops.length - i = m → i ≤ ops.length → SoonI s q qa K xs v ga bs o ds t i → env 1 = .sl .no (opsv ops) → env 5 = .int .i64 K → env 6 = .ptr q 0 → env 7 = .sl o (dsv ds) → env 8 = v → env 9 = .int .i64 t → env 10 = .int .i64 i →
      Out (evC G (.loop false af3l1) env s) (fun e env' s' => e = .exit 0) := by
  intro m
  induction m with
  | zero =>
    intro i s env qa xs v ga bs o ds t hm hi hI g1 g5 g6 g7 g8 g9 g10
    have : i = ops.length := by omega
    subst this
    refine Out_loop G false _ _ af3l1.eq_1 _ _ _ ?_
    simp [g1, g10]
    refine Out_cond _ _ _ _ _ _ _ rfl (fun h => by simp at h) (fun _ => ?_)
    simp
  | succ m ihm =>
    intro i s env qa xs v ga bs o ds t hm hi hI g1 g5 g6 g7 g8 g9 g10
    have hlt : i < ops.length := by omega
    obtain ⟨b, pk, sx, hop⟩ : ∃ b pk sx, ops[i]? = some (b, pk, sx) := ⟨_, _, _, List.getElem?_eq_getElem hlt⟩
    have hog := opsv_get hop
    have htl := hI.tl
    have hxl := hI.xl
    have hdl := hI.dl
    have hw : IntKind.i64.wrap ((i : Int) + 1) = ((i + 1 : Nat) : Int) := by rw [wrap_in (by omega) (by omega)]; omega
    refine Out_loop G false _ _ af3l1.eq_1 _ _ _ ?_
    simp [g1, g10]
    refine Out_cond _ _ _ _ _ _ _ rfl (fun _ => ?_) (fun h => by simp at h; omega)
    cases b with
    | false =>
      obtain ⟨s1, o', s2, v', g', s3, a3, c1, c2, c3, hI'⟩ := hI.put (by omega)
      have cl := len_spec hI.hq
      have w1 : IntKind.i64.wrap ((t : Int) + K) = (t : Int) + K := wrap_in (by omega) (by omega)
      have w2 : IntKind.i64.wrap ((t : Int) + K + xs.length) = (t : Int) + K + xs.length := wrap_in (by omega) (by omega)
      have w3 : IntKind.i64.wrap ((t : Int) + K + xs.length + 1) = (t : Int) + K + xs.length + 1 := wrap_in (by omega) (by omega)
      have w4 : IntKind.i64.wrap (ds.length : Int) = ds.length := wrap_in (by omega) (by omega)
      have e1 : ((t + K + xs.length + 1 : Nat) : Int) = (t : Int) + K + xs.length + 1 := by omega
      rw [e1] at c1
      generalize hds : ds ++ [t + K + xs.length + 1] = ds' at c1 hI'
      have hdl' : ds'.length = ds.length + 1 := by rw [← hds]; simp
      simp [g1, g10, hog, ld_ept]
      refine Out_cond _ _ _ _ _ _ _ rfl (fun _ => ?_) (fun h => by simp at h)
      simp [g7, g9, g5, g6, g8, cl, w1, w2, w3, w4, fillS, V.one, c1, c2, c3, hdl', g10, hw]
      refine ihm (i + 1) s3 _ (some a3) _ _ _ _ _ _ _ (by omega) (by omega) hI' ?_ ?_ ?_ ?_ ?_ ?_ ?_
      · simp [g1]
      · simp [g5]
      · simp [g6]
      · simp
      · simp
      · simp [g9]
      · simp
    | true =>
      simp [g1, g10, hog, ld_ept]
      refine Out_cond _ _ _ _ _ _ _ rfl (fun h => by simp at h) (fun _ => ?_)
      by_cases hne : xs = []
      · subst hne
        have c1 := take_none hI.hq pk
        simp [g1, g10, hog, ld_ept, g6, c1]
        refine Out_cond _ _ _ _ _ _ _ rfl (fun _ => ?_) (fun h => by simp at h)
        simp [g10, hw]
        refine ihm (i + 1) s _ qa [] v ga bs o ds t (by omega) (by omega) hI.next ?_ ?_ ?_ ?_ ?_ ?_ ?_
        · simp [g1]
        · simp [g5]
        · simp [g6]
        · simp [g7]
        · simp [g8]
        · simp [g9]
        · simp
      · obtain ⟨a, rfl⟩ : ∃ a, qa = some a := by
          cases qa with
          | none =>
            have := congrArg List.length hI.hq.1
            rw [lst_length] at this
            exact absurd (List.length_eq_zero_iff.1 this) hne
          | some a => exact ⟨a, rfl⟩
        obtain ⟨p, d, g, s1, cs, rest, hd1, hd2, hv, hpl, hgone, c1, hs1, hput, hcs, xs', hI'⟩ := hI.take (by omega) hne pk
        have hbl := hI.hl
        have hpd : p.1 < ds.length := by omega
        have hld : evLoad none (.ptr g p.1) s1 = some (.bool false, s1) := by
          simp only [evLoad, hs1, takeN]
          rw [List.head?_drop, List.getElem?_append_left (by simpa using hpl)]
          simp [hgone]
        have hst : evStore 1 (.ptr g p.1) (.bool true) s1 = some (.tup [], ⟨s1.obs.set g (.arr 4 cs), s1.bufs⟩) := by
          simp only [evStore, hs1]
          rw [if_pos ⟨rfl, by simp; omega, rfl⟩]
          simp only [cells_bool, hput]
        have w1 : IntKind.i64.wrap ((t : Int) + 1) = ((t + 1 : Nat) : Int) := by rw [wrap_in (by omega) (by omega)]; omega
        have hp0 : ¬ ((p.1 : Nat) : Int) < 0 := by omega
        have hp1 : ¬ (ds.length : Int) ≤ ((p.1 : Nat) : Int) := by omega
        have hp2 : ((p.1 : Nat) : Int) < ds.length := by omega
        have hdg := dsv_get hd1
        have hdz : (dsv ds)[((p.1 : Nat) : Int).toNat]? = some (.int .i64 (d : Int)) := hdg
        have hnd : ¬ ((d : Nat) : Int) < t + 1 := by omega
        have htd : ¬ d ≤ t := by omega
        simp [g1, g10, hog, ld_ept, g6, c1]
        refine Out_cond _ _ _ _ _ _ _ rfl (fun h => by simp at h) (fun _ => ?_)
        simp [g9, w1, g7, g8, hv, hp0, hp1, hpl, hld, ↓hdz, hnd, htd, ld_ept]
        refine Out_cond _ _ _ _ _ _ _ rfl (fun h => by simp at h; try omega) (fun _ => ?_)
        simp [g8, hv, hpl, hst]
        refine Out.mono (soonInner (s := ⟨s1.obs.set g (.arr 4 cs), s1.bufs⟩) (g := g) (t := t + 1) (bs := bs.set p.1 true) (rest := rest) (ds := ds) (o := o) (by simp [hbl]) (by omega) ?_ (fun m d hm hd => hI'.soon m d hm hd) ds.length 0 _ (by omega) (by omega) ?_ ?_ ?_ ?_) ?_
        · rw [List.getElem?_set_self (obs_lt hs1), hcs]
        · simp [g7]
        · simp [g8, hv]
        · simp
        · simp
        · rintro e env' s' ⟨rfl, rfl, f1, f5, f6, f7, f8, f9, f10⟩
          simp at f1 f5 f6 f7 f8 f9 f10
          simp [f10, g10, hw]
          refine ihm (i + 1) _ _ (some a) xs' _ _ _ _ _ _ (by omega) (by omega) hI' ?_ ?_ ?_ ?_ ?_ ?_ ?_
          · simp [f1, g1]
          · simp [f5, g5]
          · simp [f6, g6]
          · simp [f7, g7]
          · simp [f8, g8]
          · simp [f9]
          · simp

/-- QueueSoon is true, whatever it is given. -/
theorem soon_spec (n : Int) (ops : List OP) (hn : 0 ≤ n) (hn' : n < 256) (hol : ops.length ≤ 9223372036854775807) (s : St) : ∃ s', call G 3 [.int .u8 n, .sl .no (opsv ops)] s = some (.bool true, s') := by
  obtain ⟨s1, h1⟩ := awake_spec s
  suffices h : Out (evC G af3b (initEnv [.int .u8 n, .sl .no (opsv ops)]) s) (fun e env s' => e = .ret ∧ env 4 = .bool true) by
    obtain ⟨e, env, s', h, rfl, h6⟩ := h
    refine ⟨s', call_out (F := af3) rfl rfl ⟨_, _, _, h, ?_⟩⟩
    simp [af3, h6]
  obtain ⟨s1', h1'⟩ := awake_spec s1
  simp [af3b, h1]
  refine Out_cond _ _ _ _ _ _ _ rfl (fun _ => ?_) (fun hle => ?_)
  · simp [h1']
  have hops : ops.length ≤ 60 := by simp at hle; omega
  obtain ⟨k, hk⟩ : ∃ k : Nat, n.tmod 11 = k := ⟨(n.tmod 11).toNat, by have := Int.tmod_nonneg (a := n) 11 hn; omega⟩
  have hk10 : k ≤ 10 := by have := Int.tmod_lt_of_pos n (b := 11) (by omega); omega
  have w1 : IntKind.i64.wrap (k : Int) = k := wrap_in (by omega) (by omega)
  obtain ⟨s2, h2, q2, l2, f2, _⟩ := new_spec k s1
  have hz : (if 0 > (k : Int) then 0 else (k : Int)) = (k : Int) := if_neg (by omega)
  rw [hz] at q2
  simp [hk, w1, h2]
  refine Out.mono (soonLoop (q := s1.obs.length) (K := k) (ops := ops) hk10 hops ops.length 0 s2 _ none [] (.sl .nil []) none [] .nil [] 0 (by omega) (by omega) ?_ ?_ ?_ ?_ ?_ ?_ ?_ ?_) ?_
  · constructor
    · exact q2
    · exact ⟨rfl, rfl⟩
    · intro g hg; cases hg
    · exact .inl ⟨rfl, rfl⟩
    · rfl
    · intro m hm; simp at hm
    · intro p hp; simp at hp
    · simp
    · exact List.Pairwise.nil
    · intro j p hj; simp at hj
    · intro p hp; simp at hp
    · simp
    · simp
    · omega
  · simp
  · simp
  · simp
  · simp [dsv]
  · simp
  · simp
  · simp
  · rintro e env' s' rfl
    simp
end Go.Proofs.Ytaljmhlblanhaaa.Eng
