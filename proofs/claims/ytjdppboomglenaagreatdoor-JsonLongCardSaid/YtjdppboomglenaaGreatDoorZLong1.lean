/-
  JsonLong in the program. No condition.
-/
import Derived.Test.YtjdppboomglenaaGreatDoorZRefs
namespace Go.Proofs.YtjdppboomglenaaGreatDoor.Eng
open Go
set_option linter.unusedSimpArgs false
set_option linter.unusedVariables false

attribute [local simp] evC_reg evC_regD evR_cons evR_nil runR_some regK_some evC_ret evC_skip evC_exit Out_seq Out_blk Out_some seqQ_norm seqQ_ret seqQ_exit blkQ_norm blkQ_ret blkQ_exit loopQ_norm loopQ_ret loopQ_exit
attribute [local simp] stepR evOp put upd_apply X.ev initEnv cells_agg cells_int cells_str cells_bool cells_sl cells_ptr cells_pnil cells_fn cells_map vc_length vc_take vc_plain vc_und toVs_plain toPs_plain toVs_und toPs_und takeN evBin isSh intBin strBin callK resOf packR V.plain plainL V.und undL scK kill dstsO dstsL dstsR ite_some ite_pair ite_vbool evUn evLoad evLen V.real finLoop_false quietK_false kill_none


theorem longLoop0 (k : Nat) (hk : k ≤ 100) : ∀ (m i : Nat) (env : Env) (s : St), k - i = m → i ≤ k → env 5 = .int .i64 k → env 6 = .str (List.replicate i 91) → env 7 = .int .i64 i →
    Out (evC G (.loop false af4l0) env s) (fun e env' s' => e = .exit 0 ∧ s' = s ∧ env' 1 = env 1 ∧ env' 5 = .int .i64 k ∧ env' 6 = .str (List.replicate k 91)) := by
  intro m
  induction m with
  | zero =>
    intro i env s hm hi h5 h6 h7
    have : i = k := by omega
    subst this
    refine Out_loop G false _ _ af4l0.eq_1 _ _ _ ?_
    simp [h5, h7]
    refine Out_cond _ _ _ _ _ _ _ rfl (fun h => by simp at h) (fun _ => ?_)
    simp [h5, h6]
  | succ m ih =>
    intro i env s hm hi h5 h6 h7
    have hlt : i < k := by omega
    have hw : IntKind.i64.wrap ((i : Int) + 1) = ((i + 1 : Nat) : Int) := by rw [wrap_in (by omega) (by omega)]; omega
    have hal : (i : Int) + 1 ≤ i64max := by have : i64max = 9223372036854775807 := rfl; omega
    refine Out_loop G false _ _ af4l0.eq_1 _ _ _ ?_
    simp [h5, h7, hlt]
    refine Out_cond _ _ _ _ _ _ _ rfl (fun _ => ?_) (fun h => by simp at h)
    simp [h6, h7, hal, hw]
    refine Out.mono (ih (i + 1) _ s (by omega) (by omega) (by simp [h5]) (by simp [List.replicate_succ']) (by simp)) ?_
    rintro e env' s' ⟨a, b, c, d, f⟩
    exact ⟨a, b, by simpa using c, d, f⟩

theorem longLoop1 (k : Nat) (hk : k ≤ 100) : ∀ (m i : Nat) (env : Env) (s : St), k - i = m → i ≤ k → env 5 = .int .i64 k → env 6 = .str (List.replicate k 91 ++ List.replicate i 93) → env 8 = .int .i64 i →
    Out (evC G (.loop false af4l1) env s) (fun e env' s' => e = .exit 2 ∧ s' = s ∧ env' 1 = env 1 ∧ env' 6 = .str (List.replicate k 91 ++ List.replicate k 93)) := by
  intro m
  induction m with
  | zero =>
    intro i env s hm hi h5 h6 h7
    have : i = k := by omega
    subst this
    refine Out_loop G false _ _ af4l1.eq_1 _ _ _ ?_
    simp [h5, h7]
    refine Out_cond _ _ _ _ _ _ _ rfl (fun h => by simp at h) (fun _ => ?_)
    simp [h6]
  | succ m ih =>
    intro i env s hm hi h5 h6 h7
    have hlt : i < k := by omega
    have hw : IntKind.i64.wrap ((i : Int) + 1) = ((i + 1 : Nat) : Int) := by rw [wrap_in (by omega) (by omega)]; omega
    have hal : (k : Int) + ((i : Int) + 1) ≤ i64max := by have : i64max = 9223372036854775807 := rfl; omega
    have hal' : (k : Int) + (i : Int) + 1 ≤ i64max := by have : i64max = 9223372036854775807 := rfl; omega
    refine Out_loop G false _ _ af4l1.eq_1 _ _ _ ?_
    simp [h5, h7, hlt]
    refine Out_cond _ _ _ _ _ _ _ rfl (fun _ => ?_) (fun h => by simp at h)
    simp [h6, h7, hal, hal', hw]
    refine Out.mono (ih (i + 1) _ s (by omega) (by omega) (by simp [h5]) (by simp [List.replicate_succ']) (by simp)) ?_
    rintro e env' s' ⟨a, b, c, d⟩
    exact ⟨a, b, by simpa using c, d⟩

theorem skp_spaces (N : Nat) (t : List UInt8) : skp (List.replicate N 32 ++ t) = skp t := by
  induction N with
  | zero => rfl
  | succ N ih => rw [List.replicate_succ, List.cons_append]; exact ih

def spT (N : Nat) : List UInt8 := 91 :: (List.replicate N 32 ++ [93])
theorem pread_sp (N : Nat) (h : N + 2 ≤ 4000) : pread (spT N) 4000 = (.mk 4 0 [] [] [], -1, 0) := by
  have h1 : skp (spT N) = spT N := skp_id (by decide) _
  have h2 : (spT N).drop 1 = List.replicate N 32 ++ [93] := rfl
  have h3 : skp (List.replicate N 32 ++ [93]) = [93] := by rw [skp_spaces]; rfl
  have h4 : plist0 (fun l _ => pval 11 l) 93 (List.replicate N 32 ++ [93]) = .ok [] [] := by
    unfold plist0
    rw [h3]
    rfl
  have h5 : pval 12 (spT N) = .ok (.mk 4 0 [] [] []) [] := by
    have hh : hd0 (spT N) = 91 := rfl
    rw [pval, h1, hh, if_neg (by simp [spT]), if_neg (by decide), if_neg (by decide), if_pos rfl, h2, h4]
    rfl
  unfold pread
  rw [if_neg (by simp [spT]; omega), h5]
  rfl
theorem pread_sp2 (N : Nat) (h : 4000 < N + 2) : pread (spT N) 4000 = (jNull, 0, 6) := by
  unfold pread
  rw [if_pos (by simp [spT]; omega)]

theorem wrapU16 {n : Nat} (h : n < 65536) : IntKind.u16.wrap (n : Int) = n := by
  have e : (2 : Int) ^ IntKind.u16.bits = 65536 := by decide
  have e' : IntKind.u16.signed = false := by decide
  unfold IntKind.wrap
  simp only [e, e', Bool.false_and, Bool.false_eq_true, if_false]
  omega

theorem long_spec (deep n : Nat) (hd : deep < 256) (hn : n < 65536) : call G 4 [.int .u8 (deep : Int), .int .u16 (n : Int)] ⟨[], []⟩ = some (.bool true, ⟨[], []⟩) := by
  have ha := awake_spec
  refine call_out (F := af4) rfl rfl ?_
  have r1 : ((deep : Nat) : Int).tmod 16 = ((deep % 16 : Nat) : Int) := tmodN' deep 16
  have r2 : ((n : Nat) : Int).tmod 20 = ((n % 20 : Nat) : Int) := tmodN' n 20
  have w1 : IntKind.u8.wrap ((deep % 16 : Nat) : Int) = ((deep % 16 : Nat) : Int) := by rw [wrapU8 (by omega)]; omega
  have w2 : IntKind.u16.wrap ((n % 20 : Nat) : Int) = ((n % 20 : Nat) : Int) := wrapU16 (by omega)
  have w3 : IntKind.i64.wrap ((deep % 16 : Nat) : Int) = ((deep % 16 : Nat) : Int) := wrap_in (by omega) (by omega)
  have w4 : IntKind.i64.wrap ((n % 20 : Nat) : Int) = ((n % 20 : Nat) : Int) := wrap_in (by omega) (by omega)
  have w5 : IntKind.i64.wrap (3990 + ((n % 20 : Nat) : Int)) = ((3990 + n % 20 : Nat) : Int) := by rw [wrap_in (by omega) (by omega)]; omega
  generalize hk : deep % 16 = k at *
  generalize hj : n % 20 = j at *
  have hk16 : k < 16 := by omega
  have hj20 : j < 20 := by omega
  simp [af4, af4b, ha]
  refine Out_cond _ _ _ _ _ _ _ rfl (fun h => by simp at h) (fun _ => ?_)
  simp [r1, w1, w3]
  refine Out.mono (longLoop0 k (by omega) k 0 _ ⟨[], []⟩ (by omega) (by omega) (by simp) (by simp) (by simp)) ?_
  rintro e env s' ⟨rfl, rfl, h1, h5, h6⟩
  simp at h1
  simp
  refine Out.mono (longLoop1 k (by omega) k 0 _ ⟨[], []⟩ (by omega) (by omega) (by simp [h5]) (by simp [h6]) (by simp)) ?_
  rintro e env2 s' ⟨rfl, rfl, g1, g6⟩
  simp [h1] at g1
  have hs1 : (List.replicate k (91 : UInt8) ++ List.replicate k 93).length ≤ 1000000000 := by simp; omega
  generalize List.replicate k (91 : UInt8) ++ List.replicate k 93 = q at *
  have hp := parse_spec (q := q) hs1 ⟨[], []⟩ (by simp)
  have hr := fun s => refParse_spec (q := q) hs1 s
  have hok := pread_ok (q := q) hs1 4000
  have hp2 := parse_spec (q := spT (3990 + j)) (by simp [spT]; omega) ⟨[.cells 26 (vc (pread q 4000).1), .cells 26 (vc (pread q 4000).1)], []⟩ (by
    intro o ho
    simp only [List.mem_cons, List.not_mem_nil, or_false] at ho
    rcases ho with rfl | rfl <;> exact ⟨by simp [AObj.und], by simp [AObj.kind]⟩)
  generalize pread q 4000 = R at *
  obtain ⟨v, at_, e⟩ := R
  have hs := fun s => same_spec v v hok s
  have hss : sameV v v = true := (sameV_iff v v).2 rfl
  rw [hss] at hs
  have hsp : ∀ (a a' : TypeId) (x y : List V), call G 10 [.int .i64 ((3990 + j : Nat) : Int)] ⟨[.cells a x, .cells a' y], []⟩ = some (.sl .no (asBytes (List.replicate (3990 + j) 32)), ⟨[.cells a x, .cells a' y], []⟩) := by
    intro a a' x y
    rw [call_prim _ _ _ _ primSp rfl]
    simp only [primSp]
    rw [if_pos ⟨by omega, by omega, rfl⟩, Int.toNat_natCast]
  have hb2 : bytesOf (asBytes (List.replicate (3990 + j) 32)) = some (List.replicate (3990 + j) 32) := bytesOf_as _
  have hT : (91 : UInt8) :: (List.replicate (3990 + j) 32 ++ [93]) = spT (3990 + j) := rfl
  have hTl : (spT (3990 + j)).length = 3990 + j + 2 := by simp [spT]
  obtain ⟨k1, n1, ss1, L1, F1⟩ := v
  simp only [toV, vc] at hp hr hs hp2 hsp
  have hm1 : ((3990 + j : Nat) : Int) + 1 ≤ i64max := by have : i64max = 9223372036854775807 := rfl; omega
  have hm2 : 1 + ((3990 + j : Nat) : Int) ≤ i64max := by have : i64max = 9223372036854775807 := rfl; omega
  have hm3 : 1 + ((3990 + j : Nat) : Int) + 1 ≤ i64max := by have : i64max = 9223372036854775807 := rfl; omega
  have hm4 : ((3990 + j : Nat) : Int) + 1 + 1 ≤ i64max := by have : i64max = 9223372036854775807 := rfl; omega
  generalize hN : 3990 + j = N at *
  by_cases hl : N + 2 ≤ 4000
  · rw [pread_sp N hl] at hp2
    simp only [toV, vc, toVs, toPs] at hp2
    have hlt : ¬ 4000 < N + 2 := by omega
    have hlt2 : ¬ (4000 : Int) < (N : Int) + 2 := by omega
    simp [g1, g6, hp, hr, r2, w2, w4, w5, hN, evStore, V.one, putL, hsp, hb2, hm1, hm2, hm3, hm4, hT, hp2, hs, hTl, hlt, hlt2]
    simp [fin]
  · rw [pread_sp2 N (by omega)] at hp2
    simp only [toV, jNull, vc, toVs, toPs] at hp2
    have hlt : 4000 < N + 2 := by omega
    have hlt2 : (4000 : Int) < (N : Int) + 2 := by omega
    simp [g1, g6, hp, hr, r2, w2, w4, w5, hN, evStore, V.one, putL, hsp, hb2, hm1, hm2, hm3, hm4, hT, hp2, hs, hTl, hlt, hlt2]
    simp [fin]

end Go.Proofs.YtjdppboomglenaaGreatDoor.Eng
