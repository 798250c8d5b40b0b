/-
  TokenMany in the program. No condition.
-/
import Derived.Test.YtadpobnajjocnaaDoorD1
namespace Go.Proofs.YtadpobnajjocnaaDoor.Eng
open Go
set_option linter.unusedSimpArgs false
set_option linter.unusedVariables false

attribute [local simp] evC_condT evC_condF evC_reg evC_regD evR_cons evR_nil runR_some regK_some evC_ret evC_skip evC_exit Out_seq Out_blk Out_some seqQ_norm seqQ_ret seqQ_exit blkQ_norm blkQ_ret blkQ_exit loopQ_norm loopQ_ret loopQ_exit
attribute [local simp] stepR evOp put upd_apply X.ev initEnv cells_agg cells_int cells_str cells_bool cells_sl cells_ptr cells_pnil cells_fn cells_map takeN evBin isSh intBin strBin callK resOf packR V.plain plainL V.und undL scK kill dstsO dstsL dstsR ite_some ite_pair ite_vbool evUn evLoad evLen V.real finLoop_false quietK_false kill_none
theorem mtmod (a b : Nat) : ((a : Int)).tmod (b : Int) = ((a % b : Nat) : Int) := by
  rw [Int.tmod_eq_emod_of_nonneg (Int.natCast_nonneg a)]
  rfl
theorem wrapU16 {n : Nat} (h : n < 65536) : IntKind.u16.wrap (n : Int) = n := by
  have e : (2 : Int) ^ IntKind.u16.bits = 65536 := by decide
  have e' : IntKind.u16.signed = false := by decide
  unfold IntKind.wrap
  simp only [e, e', Bool.false_and, Bool.false_eq_true, if_false]
  omega

theorem manyLoop (k : Nat) (hk : k ≤ 1000) (s : St) : ∀ (m i : Nat) (env : Env), k - i = m → i ≤ k → env 5 = .int .i64 k → env 6 = .str (aSp i) → env 7 = .int .i64 i →
    Out (evC G (.loop false af3l0) env s) (fun e env' s' => e = .exit 0 ∧ s' = s ∧ env' 1 = env 1 ∧ env' 5 = .int .i64 k ∧ env' 6 = .str (aSp k)) := by
  intro m
  induction m with
  | zero =>
    intro i env hm hi h5 h6 h7
    have : i = k := by omega
    subst this
    refine Out_loop G false _ _ af3l0.eq_1 _ _ _ ?_
    simp [h5, h6, h7]
  | succ m ih =>
    intro i env hm hi h5 h6 h7
    have hlt : i < k := by omega
    have hlt' : (i : Int) < (k : Int) := by omega
    have hw : IntKind.i64.wrap ((i : Int) + 1) = ((i + 1 : Nat) : Int) := by rw [wrap_in (by omega) (by omega)]; omega
    have hl := aSp_len i
    have e64 : i64max = 9223372036854775807 := rfl
    have hal : 2 * (i : Int) + 2 ≤ 9223372036854775807 := by omega
    have hsn := aSp_snoc i
    refine Out_loop G false _ _ af3l0.eq_1 _ _ _ ?_
    simp [h5, h6, h7, hlt, hlt', hw, hl, e64, hal, hsn]
    refine Out.mono (ih (i + 1) _ (by omega) (by omega) (by simp [h5]) (by simp) (by simp)) ?_
    rintro e env' s' ⟨a, b, c, d, f⟩
    exact ⟨a, b, by simpa using c, d, f⟩

theorem fin_id0 {b : Bool} {X : List AObj} {B : List (Nat × Nat × TypeId)} (h : B = []) : fin false ⟨[], []⟩ ⟨X, B⟩ (.bool b) = (.bool b, ⟨[], []⟩) := by
  subst h
  simp [fin, V.plain]
theorem many_spec (n m : Nat) (hn : n < 65536) (hm : m < 256) : call G 3 [.int .u16 (n : Int), .int .u8 (m : Int)] ⟨[], []⟩ = some (.bool true, ⟨[], []⟩) := by
  have ha := awake_spec
  refine call_out (F := af3) rfl rfl ?_
  have r1 : ((n : Nat) : Int).tmod 40 = ((n % 40 : Nat) : Int) := mtmod n 40
  have r2 : ((m : Nat) : Int).tmod 20 = ((m % 20 : Nat) : Int) := mtmod m 20
  have w1 : IntKind.u16.wrap ((n % 40 : Nat) : Int) = ((n % 40 : Nat) : Int) := wrapU16 (by omega)
  have w2 : IntKind.u8.wrap ((m % 20 : Nat) : Int) = ((m % 20 : Nat) : Int) := by rw [wrapU8 (by omega)]; omega
  have w3 : IntKind.i64.wrap ((n % 40 : Nat) : Int) = ((n % 40 : Nat) : Int) := wrap_in (by omega) (by omega)
  have w4 : IntKind.i64.wrap ((m % 20 : Nat) : Int) = ((m % 20 : Nat) : Int) := wrap_in (by omega) (by omega)
  have w5 : IntKind.i64.wrap (880 + ((n % 40 : Nat) : Int)) = ((880 + n % 40 : Nat) : Int) := by rw [wrap_in (by omega) (by omega)]; omega
  have w6 : IntKind.i64.wrap (3990 + ((m % 20 : Nat) : Int)) = ((3990 + m % 20 : Nat) : Int) := by rw [wrap_in (by omega) (by omega)]; omega
  have hk1 : 880 + n % 40 ≤ 1000 := by omega
  have hN1 : 3990 + m % 20 ≤ 10000 := by omega
  generalize hk : 880 + n % 40 = k at *
  generalize hN : 3990 + m % 20 = N at *
  generalize n % 40 = x1 at *
  generalize m % 20 = x2 at *
  have hsp : ∀ s : St, (s.obs.all fun o => match o with | .dead => false | _ => true) = true → call G 7 [.int .i64 (N : Int)] s = some (.sl .no (asBytes (List.replicate N 120)), s) := by
    intro s hs
    rw [call_prim _ _ _ _ primSp rfl]
    simp only [primSp]
    rw [if_pos ⟨by omega, by omega, hs⟩, Int.toNat_natCast]
  have hb2 : bytesOf (asBytes (List.replicate N 120)) = some (List.replicate N 120) := bytesOf_as _
  have hsl := aSp_len k
  have hlx := lex_spec (aSp k) (by omega)
  have hlx2 := lex_spec (xs N) (by simp [xs]; omega)
  have hxl : (xs N).length = N + 1 := by simp [xs]
  have hxs : (35 : UInt8) :: List.replicate N 120 = xs N := rfl
  rw [lexP_xs] at hlx2
  obtain ⟨p1, p2⟩ := lexP_a k (by omega)
  have e64 : i64max = 9223372036854775807 := rfl
  have hm2 : 1 + (N : Int) ≤ 9223372036854775807 := by omega
  have hm3 : (N : Int) + 1 ≤ 9223372036854775807 := by omega
  simp [af3, af3b, ha, r1, w1, w3, w5]
  refine Out.mono (manyLoop k (by omega) ⟨[], []⟩ k 0 _ (by omega) (by omega) (by simp) (by simp [aSp]) (by simp)) ?_
  rintro e env s' ⟨rfl, rfl, h1, h5, h6⟩
  simp at h1
  by_cases h9 : k ≤ 900
  · obtain ⟨T, hT, hTl⟩ := p1 h9
    rw [hT] at hlx
    have htl := tokVs_len T
    have hpT := tokVs_plain T
    have h9' : (k : Int) ≤ 900 := by omega
    have h9n : ¬ 900 < k := by omega
    have h9n' : ¬ (900 : Int) < (k : Int) := by omega
    generalize aSp k = q at *
    by_cases hl : 4000 < N + 1
    · have hl' : (4000 : Int) < (N : Int) + 1 := by omega
      have hl2 : ¬ (N : Int) + 1 ≤ 4000 := by omega
      rw [if_pos hl] at hlx2
      simp [h1, h5, h6, hlx, hpT, htl, hTl, h9, h9', h9n, h9n', r2, w2, w4, w6, hsp, hb2, e64, hm2, hm3, hxs, hlx2, hxl, hl, hl', hl2, tokVs, fillL, putL, evStore, V.one, evEqs, eqCells, eqCell]
      rw [fin_id0 rfl]
    · have hl' : ¬ (4000 : Int) < (N : Int) + 1 := by omega
      have hl2 : (N : Int) + 1 ≤ 4000 := by omega
      rw [if_neg hl] at hlx2
      simp [h1, h5, h6, hlx, hpT, htl, hTl, h9, h9', h9n, h9n', r2, w2, w4, w6, hsp, hb2, e64, hm2, hm3, hxs, hlx2, hxl, hl, hl', hl2, tokVs, fillL, putL, evStore, V.one, evEqs, eqCells, eqCell]
      rw [fin_id0 rfl]
  · rw [p2 (by omega)] at hlx
    have h9' : ¬ (k : Int) ≤ 900 := by omega
    have h9n : 900 < k := by omega
    have h9n' : (900 : Int) < (k : Int) := by omega
    generalize aSp k = q at *
    by_cases hl : 4000 < N + 1
    · have hl' : (4000 : Int) < (N : Int) + 1 := by omega
      have hl2 : ¬ (N : Int) + 1 ≤ 4000 := by omega
      rw [if_pos hl] at hlx2
      simp [h1, h5, h6, hlx, h9, h9', h9n, h9n', r2, w2, w4, w6, hsp, hb2, e64, hm2, hm3, hxs, hlx2, hxl, hl, hl', hl2, tokVs, fillL, putL, evStore, V.one, evEqs, eqCells, eqCell]
      rw [fin_id0 rfl]
    · have hl' : ¬ (4000 : Int) < (N : Int) + 1 := by omega
      have hl2 : (N : Int) + 1 ≤ 4000 := by omega
      rw [if_neg hl] at hlx2
      simp [h1, h5, h6, hlx, h9, h9', h9n, h9n', r2, w2, w4, w6, hsp, hb2, e64, hm2, hm3, hxs, hlx2, hxl, hl, hl', hl2, tokVs, fillL, putL, evStore, V.one, evEqs, eqCells, eqCell]
      rw [fin_id0 rfl]

end Go.Proofs.YtadpobnajjocnaaDoor.Eng
