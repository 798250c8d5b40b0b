/-
  Tokens: what the functions do, one behind the other. No condition.
-/
import Derived.Test.YtadpobnajjocnaaGreatDoorTN
/-
  The reference's quoted texts. No condition.
-/
namespace Go.Proofs.YtadpobnajjocnaaGreatDoor.Eng
open Go
set_option linter.unusedSimpArgs false
set_option linter.unusedVariables false

attribute [local simp] evC_reg evC_regD evR_cons evR_nil runR_some regK_some evC_ret evC_skip evC_exit Out_seq Out_blk Out_some seqQ_norm seqQ_ret seqQ_exit blkQ_norm blkQ_ret blkQ_exit loopQ_norm loopQ_ret loopQ_exit
attribute [local simp] stepR evOp put upd_apply X.ev initEnv cells_agg cells_int cells_str cells_bool cells_sl cells_ptr cells_pnil cells_fn cells_map takeN evBin isSh intBin strBin callK resOf packR fin V.plain plainL V.und undL scK kill dstsO dstsL dstsR ite_some ite_pair ite_vbool evUn evLoad evLen V.real finLoop_false quietK_false quietK_same kill_none

theorem qByte_len (x : UInt8) : (qByte x).length ≤ 6 := by
  unfold qByte hexR
  repeat' split
  all_goals simp
theorem flat_len : ∀ b : List UInt8, (b.flatMap qByte).length ≤ 6 * b.length
  | [] => by simp
  | x :: l => by
    have := flat_len l
    have := qByte_len x
    rw [List.flatMap_cons, List.length_append, List.length_cons]; omega

end Go.Proofs.YtadpobnajjocnaaGreatDoor.Eng

/-
  Plain texts of tokens: the program's and the reference's are the same. No condition.
-/
namespace Go.Proofs.YtadpobnajjocnaaGreatDoor.Eng
open Go
set_option linter.unusedSimpArgs false
set_option linter.unusedVariables false

attribute [local simp] evC_condT evC_condF evC_reg evC_regD evR_cons evR_nil runR_some regK_some evC_ret evC_skip evC_exit Out_seq Out_blk Out_some seqQ_norm seqQ_ret seqQ_exit blkQ_norm blkQ_ret blkQ_exit loopQ_norm loopQ_ret loopQ_exit
attribute [local simp] stepR evOp put upd_apply X.ev initEnv cells_agg cells_int cells_str cells_bool cells_sl cells_ptr cells_pnil cells_fn cells_map takeN evBin isSh intBin strBin callK resOf packR V.plain plainL V.und undL scK kill dstsO dstsL dstsR ite_some ite_pair ite_vbool evUn evLoad evLen V.real finLoop_false quietK_false kill_none
def lexOne (t : Tok) : Bool := decide ((lexP t.s).2.1 = 0) && (match (lexP t.s).1 with | [u] => decide (u.k = t.k) && decide (u.s = t.s) | _ => false)
def plT (t : Tok) : List UInt8 := if t.k = 4 then (if rightV t.s = true then quoteV t.s else []) else if lexOne t = true then t.s else []
def anyBad (A : List Tok) : Bool := A.any fun t => decide (plT t = [])
def plainP (A : List Tok) : List UInt8 := if anyBad A = true then [] else Lib.join (A.map plT) [32]
def short (t : Tok) : Bool := decide (t.s.length ≤ 60)
def fewP (n : Int) (A : List Tok) : Bool := (A.take 100).all short && decide ((A.length : Int) ≤ n)

/-! ### Few and short -/
def fewT (A : List Tok) (i : Nat) (s : St) (ex : AExit) (env env' : Env) (s' : St) : Prop :=
  s' = s ∧ if ((A.take 100).drop i).all short = true then ex = .exit 0 ∧ env' 0 = env 0 ∧ env' 1 = env 1 else ex = .ret ∧ env' 4 = .bool false

theorem fewLoop (A : List Tok) (s : St) : ∀ (m i : Nat) (env : Env), 100 - i = m → i ≤ 100 → env 0 = .sl .no (tokVs A) → env 5 = .int .i64 i →
    Out (evC G (.loop false af11l0) env s) (fun ex env' s' => fewT A i s ex env env' s') := by
  intro m
  have htl := tokVs_len A
  induction m with
  | zero =>
    intro i env hm hi h0 h5
    have : i = 100 := by omega
    subst this
    have hd : (A.take 100).drop 100 = [] := List.drop_eq_nil_of_le (by rw [List.length_take]; omega)
    have hT : ∀ env', env' 0 = env 0 → env' 1 = env 1 → fewT A 100 s (.exit 0) env env' s := fun env' a b => by
      unfold fewT; rw [hd]; exact ⟨rfl, by rw [if_pos (by rfl)]; exact ⟨rfl, a, b⟩⟩
    generalize fewT A 100 s = T at *
    have h5' : env 5 = .int .i64 100 := h5
    refine Out_loop G false _ _ af11l0.eq_1 _ _ _ ?_
    by_cases h : 100 < A.length
    · have h' : (100 : Int) < (A.length : Int) := by omega
      simp [h0, h5', htl, h, h']
      exact hT _ (by simp [h0]) (by simp)
    · have h' : ¬ (100 : Int) < (A.length : Int) := by omega
      simp [h0, h5', htl, h, h']
      exact hT _ (by simp [h0]) (by simp)
  | succ m ih =>
    intro i env hm hi h0 h5
    have hi100 : i < 100 := by omega
    have hi100' : (i : Int) < 100 := by omega
    by_cases h : i < A.length
    · have hlt : i < (A.take 100).length := by rw [List.length_take]; omega
      have hdr := List.drop_eq_getElem_cons hlt
      rw [List.getElem_take] at hdr
      have hgm : (tokVs A)[((i : Nat) : Int).toNat]? = some (tokV A[i]) := by
        unfold tokVs
        rw [Int.toNat_natCast, List.getElem?_map, List.getElem?_eq_getElem h]; rfl
      have hw : IntKind.i64.wrap ((i : Int) + 1) = ((i + 1 : Nat) : Int) := by rw [wrap_in (by omega) (by omega)]; omega
      have hgo := fun env => ih (i + 1) env (by omega) (by omega)
      generalize A[i] = t at *
      by_cases ht : t.s.length ≤ 60
      · have hT : ∀ ex env1 env' s', env1 0 = env 0 → env1 1 = env 1 → fewT A (i + 1) s ex env1 env' s' → fewT A i s ex env env' s' := by
          intro ex env1 env' s' a b hf
          unfold fewT at hf ⊢
          rw [hdr, List.all_cons, show short t = true by simp [short, ht], Bool.true_and]
          rw [a, b] at hf
          exact hf
        clear hdr ih
        obtain ⟨k, x, a⟩ := t
        simp only at ht
        have ht' : ¬ 60 < x.length := by omega
        have ht2 : ¬ (60 : Int) < (x.length : Int) := by omega
        refine Out_loop G false _ _ af11l0.eq_1 _ _ _ ?_
        generalize fewT A i s = T at *
        simp [h0, h5, htl, h, hi100, hi100', ↓hgm, tokV, ht', ht2, hw]
        exact Out.mono (hgo _ (by simp [h0]) (by simp)) (fun ex env' s' hf => hT _ _ _ _ (by simp [h0]) (by simp) hf)
      · have hT : ∀ env', env' 4 = .bool false → fewT A i s .ret env env' s := by
          intro env' a
          unfold fewT
          rw [hdr, List.all_cons, show short t = false by simp [short]; omega, Bool.false_and]
          exact ⟨rfl, by rw [if_neg (by decide)]; exact ⟨rfl, a⟩⟩
        clear hdr ih
        obtain ⟨k, x, a⟩ := t
        simp only at ht
        have ht' : 60 < x.length := by omega
        have ht2 : (60 : Int) < (x.length : Int) := by omega
        refine Out_loop G false _ _ af11l0.eq_1 _ _ _ ?_
        generalize fewT A i s = T at *
        simp [h0, h5, htl, h, hi100, hi100', ↓hgm, tokV, ht', ht2]
        exact hT _ (by simp)
    · have hd : (A.take 100).drop i = [] := List.drop_eq_nil_of_le (by rw [List.length_take]; omega)
      have hT : ∀ env', env' 0 = env 0 → env' 1 = env 1 → fewT A i s (.exit 0) env env' s := fun env' a b => by
        unfold fewT; rw [hd]; exact ⟨rfl, by rw [if_pos (by rfl)]; exact ⟨rfl, a, b⟩⟩
      generalize fewT A i s = T at *
      refine Out_loop G false _ _ af11l0.eq_1 _ _ _ ?_
      simp [h0, h5, htl, h]
      exact hT _ (by simp [h0]) (by simp)

theorem few_spec (A : List Tok) (n : Int) (s : St) : call G 11 [.sl .no (tokVs A), .int .i64 n] s = some (.bool (fewP n A), s) := by
  have htl := tokVs_len A
  have hpl := tokVs_plain A
  refine call_out (F := af11) rfl rfl ?_
  simp [af11, af11b]
  refine Out.mono (fewLoop A s 100 0 _ rfl (by omega) (by simp [hpl]) (by simp)) ?_
  intro ex env' s' hT
  unfold fewT at hT
  rw [List.drop_zero] at hT
  obtain ⟨rfl, hT⟩ := hT
  by_cases h : (A.take 100).all short = true
  · rw [if_pos h] at hT
    obtain ⟨rfl, k0, k1⟩ := hT
    simp [hpl] at k0 k1
    simp [k0, k1, htl]
    rw [fin_id _ (v := .bool _) rfl]
    simp only [V.plain, fewP, h, Bool.true_and]
  · rw [if_neg h] at hT
    obtain ⟨rfl, k4⟩ := hT
    simp [k4]
    rw [fin_id _ (v := .bool _) rfl]
    have h' : (A.take 100).all short = false := by simpa using h
    simp only [V.plain, fewP, h', Bool.false_and]

/-! ### One token -/
theorem plain21_spec (t : Tok) (hl : t.s.length ≤ 1000000000) (s : St) : call G 21 [tokV t] s = some (.str (plT t), s) := by
  obtain ⟨k, x, a⟩ := t
  simp only at hl
  refine call_out (F := af21) rfl rfl ?_
  by_cases hk : k = 4
  · subst hk
    have hq := fun s => quote_spec x hl s
    by_cases hr : rightV x = true
    · simp only [hr, if_true] at hq
      simp [af21, af21b, tokV, hq]
      rw [fin_s0 _ _ _ (by rfl)]
      simp [plT, hr]
    · simp only [hr, if_false, Bool.false_eq_true] at hq
      simp [af21, af21b, tokV, hq]
      rw [fin_s0 _ _ _ (by rfl)]
      simp [plT, hr]
  · have hk1 : (k = 4) = False := eq_false hk
    have hlx := lex_spec x (by omega)
    have hpt : plT ⟨k, x, a⟩ = if lexOne ⟨k, x, a⟩ = true then x else [] := by unfold plT; rw [if_neg hk]
    have hlo : lexOne ⟨k, x, a⟩ = (decide ((lexP x).2.1 = 0) && (match (lexP x).1 with | [u] => decide (u.k = k) && decide (u.s = x) | _ => false)) := rfl
    rw [hpt, hlo]
    generalize (lexP x).1 = L at *
    generalize (lexP x).2.1 = e at *
    generalize (lexP x).2.2 = p at *
    by_cases he : e = 0
    · subst he
      match L, hlx with
      | [], hlx =>
        simp only [tokVs, List.map] at hlx
        simp [af21, af21b, tokV, hk1, hlx, fillL, putL, evStore, V.one]
        rw [fin_s0 _ _ _ (by rfl)]
        rfl
      | [u], hlx =>
        obtain ⟨uk, us, ua⟩ := u
        simp only [tokVs, tokV, List.map] at hlx
        by_cases h1 : uk = k
        · by_cases h2 : us = x
          · simp [af21, af21b, tokV, hk1, hlx, h1, h2, fillL, putL, evStore, V.one]
            rw [fin_s0 _ _ _ (by rfl)]
            rfl
          · simp [af21, af21b, tokV, hk1, hlx, h1, h2, fillL, putL, evStore, V.one]
            rw [fin_s0 _ _ _ (by rfl)]
            rfl
        · simp [af21, af21b, tokV, hk1, hlx, h1, fillL, putL, evStore, V.one]
          rw [fin_s0 _ _ _ (by rfl)]
          rfl
      | u :: v :: w, hlx =>
        simp only [tokVs, List.map] at hlx
        have hne : ¬ ((w.length : Int) + 1 + 1 = 1) := by omega
        simp [af21, af21b, tokV, hk1, hlx, hne, fillL, putL, evStore, V.one]
        rw [fin_s0 _ _ _ (by rfl)]
        rfl
    · have he1 : (e = 0) = False := eq_false he
      simp [af21, af21b, tokV, hk1, hlx, he1, fillL, putL, evStore, V.one]
      rw [fin_s0 _ _ _ (by rfl)]
      rfl

end Go.Proofs.YtadpobnajjocnaaGreatDoor.Eng

/-
  Plain texts of tokens, in the program and in the reference. No condition.
-/
namespace Go.Proofs.YtadpobnajjocnaaGreatDoor.Eng
open Go
set_option linter.unusedSimpArgs false
set_option linter.unusedVariables false

attribute [local simp] evC_condT evC_condF evC_reg evC_regD evR_cons evR_nil runR_some regK_some evC_ret evC_skip evC_exit Out_seq Out_blk Out_some seqQ_norm seqQ_ret seqQ_exit blkQ_norm blkQ_ret blkQ_exit loopQ_norm loopQ_ret loopQ_exit
attribute [local simp] stepR evOp put upd_apply X.ev initEnv cells_agg cells_int cells_str cells_bool cells_sl cells_ptr cells_pnil cells_fn cells_map takeN evBin isSh intBin strBin callK resOf packR V.plain plainL V.und undL scK kill dstsO dstsL dstsR ite_some ite_pair ite_vbool evUn evLoad evLen V.real finLoop_false quietK_false kill_none
theorem anyBad_snoc (D : List Tok) (t : Tok) : anyBad (D ++ [t]) = (anyBad D || decide (plT t = [])) := by simp [anyBad]
theorem anyBad_mid (D : List Tok) (t : Tok) (R : List Tok) (h : plT t = []) : anyBad (D ++ t :: R) = true := by simp [anyBad, h]
theorem tot_le (X : List (List UInt8)) (c : Nat) (h : ∀ x ∈ X, x.length ≤ c) : tot X ≤ X.length * (c + 1) := by
  induction X with
  | nil => simp [tot]
  | cons x X ih =>
    have h1 := h x (by simp)
    have h2 := ih fun y hy => h y (by simp [hy])
    rw [tot_cons, List.length_cons, Nat.add_mul]
    omega

theorem join_sp (X : List (List UInt8)) (h1 : X.length ≤ 1000000000) (h2 : (Lib.join X [32]).length ≤ 140737488355328) (s : St) : call G 22 [.sl .no (X.map V.str), .str [32]] s = some (.str (Lib.join X [32]), s) := by
  have hso : ∀ X : List (List UInt8), strsOf (X.map V.str) = some X := by
    intro X
    induction X with
    | nil => rfl
    | cons x X ih => simp [strsOf, ih]
  rw [call_prim G 22 _ _ primJoin rfl]
  simp only [primJoin, hso, Option.bind_some]
  rw [if_pos ⟨h1, h2⟩]

def p12T (A : List Tok) (s : St) (ex : AExit) (env' : Env) (s' : St) : Prop :=
  s'.obs.take s.obs.length = s.obs ∧ if anyBad A = true then ex = .ret ∧ env' 2 = .str [] ∧ s'.bufs.take s.bufs.length = s.bufs
    else ex = .exit 0 ∧ env' 3 = .sl (ownOf s.bufs (A.map plT)) ((A.map plT).map V.str) ∧ s'.bufs = s.bufs ++ exOf (16, 9) (A.map plT)

theorem p12Loop (A : List Tok) (hA : A.length ≤ 1000000) (hs : ∀ t ∈ A, t.s.length ≤ 1000000000) (s : St) : ∀ (R D : List Tok) (O : List AObj) (env : Env), D ++ R = A → anyBad D = false → O.take s.obs.length = s.obs →
    env 3 = .sl (ownOf s.bufs (D.map plT)) ((D.map plT).map V.str) → env 7 = .sl .no (tokVs A) → env 8 = .int .i64 A.length → env 9 = .int .i64 D.length →
    Out (evC G (.loop false af12l0) env ⟨O, s.bufs ++ exOf (16, 9) (D.map plT)⟩) (p12T A s) := by
  intro R
  induction R with
  | nil =>
    intro D O env hD hb hO h3 h7 h8 h9
    rw [List.append_nil] at hD
    subst hD
    have hT : ∀ env' : Env, env' 3 = env 3 → p12T D s (.exit 0) env' ⟨O, s.bufs ++ exOf (16, 9) (D.map plT)⟩ := fun env' e => ⟨hO, by rw [if_neg (by simp [hb])]; exact ⟨rfl, by rw [e, h3], rfl⟩⟩
    generalize p12T D s = T at *
    refine Out_loop G false _ _ af12l0.eq_1 _ _ _ ?_
    simp [h8, h9]
    exact hT _ (by simp)
  | cons t R ih =>
    intro D O env hD hb hO h3 h7 h8 h9
    have hlen : A.length = D.length + (R.length + 1) := by rw [← hD]; simp
    have hlt : D.length < A.length := by omega
    have hgm : (tokVs A)[((D.length : Nat) : Int).toNat]? = some (tokV t) := by
      unfold tokVs
      rw [Int.toNat_natCast, List.getElem?_map, ← hD, List.getElem?_append_right (Nat.le_refl _), Nat.sub_self]; rfl
    have hw : IntKind.i64.wrap ((D.length : Int) + 1) = ((D.length + 1 : Nat) : Int) := by rw [wrap_in (by omega) (by omega)]; omega
    have hp := plain21_spec t (hs t (by rw [← hD]; simp))
    have hOl : s.obs.length ≤ O.length := by
      have := congrArg List.length hO
      rw [List.length_take] at this
      omega
    have hOX : ∀ X : List AObj, (O ++ X).take s.obs.length = s.obs := fun X => by rw [List.take_append_of_le_length hOl, hO]
    have hap := fun O => app_str (D.map plT) (plT t) (by rw [List.length_map]; omega) O s.bufs
    by_cases hpt : plT t = []
    · have hbad : anyBad A = true := by rw [← hD]; exact anyBad_mid D t R hpt
      have hT : ∀ (X : List AObj) (env' : Env), env' 2 = .str [] → p12T A s .ret env' ⟨O ++ X, s.bufs ++ exOf (16, 9) (D.map plT)⟩ := fun X env' e => ⟨hOX X, by rw [if_pos hbad]; exact ⟨rfl, e, by simp⟩⟩
      clear ih hap
      generalize p12T A s = T at *
      rw [hpt] at hp
      obtain ⟨k, x, a⟩ := t
      simp only [tokV] at hgm hp
      refine Out_loop G false _ _ af12l0.eq_1 _ _ _ ?_
      simp [h7, h8, h9, hlt, ↓hgm, hp, fillL, putL, evStore, V.one]
      exact hT _ _ (by simp)
    · have hpt' : (plT t = []) = False := eq_false hpt
      have hgo := fun O env => ih (D ++ [t]) O env (by rw [← hD]; simp) (by rw [anyBad_snoc, hb]; simp [hpt])
      rw [show (D ++ [t]).map plT = D.map plT ++ [plT t] by simp, show (D ++ [t]).length = D.length + 1 by simp] at hgo
      clear ih
      generalize p12T A s = T at *
      generalize D.map plT = Y at *
      generalize plT t = y at *
      obtain ⟨k, x, a⟩ := t
      simp only [tokV] at hgm hp
      refine Out_loop G false _ _ af12l0.eq_1 _ _ _ ?_
      simp [h3, h7, h8, h9, hlt, ↓hgm, hp, hpt', fillL, fillS, putL, evStore, V.one, hap, hw]
      exact hgo _ _ (hOX _) (by simp) (by simp [h7]) (by simp [h8]) (by simp)

theorem plT_len (t : Tok) (h : t.s.length ≤ 1000) : (plT t).length ≤ 10000 := by
  unfold plT
  split
  · split
    · rename_i hr
      have := flat_len t.s
      rw [quote_ref _ hr]
      unfold quoteR
      simp only [List.length_cons, List.length_append, List.length_nil]
      omega
    · simp
  · split
    · omega
    · simp

theorem strs_plain (X : List (List UInt8)) : plainL (X.map V.str) = X.map V.str := by
  induction X with
  | nil => rfl
  | cons x X ih => simp [plainL, ih, V.plain]

theorem plain12_spec (A : List Tok) (hA : A.length ≤ 1000) (hs : ∀ t ∈ A, t.s.length ≤ 1000) (s : St) : call G 12 [.sl .no (tokVs A)] s = some (.str (plainP A), s) := by
  have htl := tokVs_len A
  have hpl := tokVs_plain A
  have e0 : s = ⟨s.obs, s.bufs ++ exOf (16, 9) (([] : List Tok).map plT)⟩ := by simp [exOf]
  have hgo := p12Loop A (by omega) (fun t ht => by have := hs t ht; omega) s A [] s.obs
  rw [← e0] at hgo
  refine call_out (F := af12) rfl rfl ?_
  simp [af12, af12b, htl, hpl]
  refine Out.mono (hgo _ rfl rfl (by rw [List.take_length]) (by simp [ownOf]) (by simp) (by simp) (by simp)) ?_
  intro ex env' s' hT
  obtain ⟨hO, hT⟩ := hT
  unfold plainP
  by_cases hb : anyBad A = true
  · rw [if_pos hb] at hT ⊢
    obtain ⟨rfl, k2, hB⟩ := hT
    simp [k2]
    rw [fin_tk hO hB (v := .str _) rfl]
    rfl
  · rw [if_neg hb] at hT ⊢
    obtain ⟨rfl, k3, hB⟩ := hT
    have h1 := tot_le (A.map plT) 10000 (fun x hx => by
      obtain ⟨t, ht, rfl⟩ := List.mem_map.1 hx
      exact plT_len t (hs t ht))
    have h2 := tot_join (A.map plT) 32
    rw [List.length_map] at h1
    have h3 : A.length * (10000 + 1) ≤ 1000 * (10000 + 1) := Nat.mul_le_mul_right _ hA
    have hj := join_sp (A.map plT) (by rw [List.length_map]; omega) (by omega)
    generalize A.map plT = Y at *
    have hsp := strs_plain Y
    simp [k3, hsp, hj]
    rw [fin_tk hO (by rw [hB]; simp) (v := .str _) rfl]
    rfl

end Go.Proofs.YtadpobnajjocnaaGreatDoor.Eng

/-
  Plain texts of tokens in the reference; the law. No condition.
-/
namespace Go.Proofs.YtadpobnajjocnaaGreatDoor.Eng
open Go
set_option linter.unusedSimpArgs false
set_option linter.unusedVariables false

attribute [local simp] evC_condT evC_condF evC_reg evC_regD evR_cons evR_nil runR_some regK_some evC_ret evC_skip evC_exit Out_seq Out_blk Out_some seqQ_norm seqQ_ret seqQ_exit blkQ_norm blkQ_ret blkQ_exit loopQ_norm loopQ_ret loopQ_exit
attribute [local simp] stepR evOp put upd_apply X.ev initEnv cells_agg cells_int cells_str cells_bool cells_sl cells_ptr cells_pnil cells_fn cells_map takeN evBin isSh intBin strBin callK resOf packR V.plain plainL V.und undL scK kill dstsO dstsL dstsR ite_some ite_pair ite_vbool evUn evLoad evLen V.real finLoop_false quietK_false kill_none
end Go.Proofs.YtadpobnajjocnaaGreatDoor.Eng

/-
  Plain texts of tokens: the law in the program. No condition.
-/
namespace Go.Proofs.YtadpobnajjocnaaGreatDoor.Eng
open Go
set_option linter.unusedSimpArgs false
set_option linter.unusedVariables false

attribute [local simp] evC_condT evC_condF evC_reg evC_regD evR_cons evR_nil runR_some regK_some evC_ret evC_skip evC_exit Out_seq Out_blk Out_some seqQ_norm seqQ_ret seqQ_exit blkQ_norm blkQ_ret blkQ_exit loopQ_norm loopQ_ret loopQ_exit
attribute [local simp] stepR evOp put upd_apply X.ev initEnv cells_agg cells_int cells_str cells_bool cells_sl cells_ptr cells_pnil cells_fn cells_map takeN evBin isSh intBin strBin callK resOf packR V.plain plainL V.und undL scK kill dstsO dstsL dstsR ite_some ite_pair ite_vbool evUn evLoad evLen V.real finLoop_false quietK_false kill_none
theorem few_of {n : Int} {A : List Tok} (hn : n ≤ 100) (h : fewP n A = true) : (A.length : Int) ≤ n ∧ ∀ t ∈ A, t.s.length ≤ 60 := by
  unfold fewP at h
  rw [Bool.and_eq_true, decide_eq_true_eq] at h
  refine ⟨h.2, fun t ht => ?_⟩
  have hl : A.take 100 = A := List.take_of_length_le (by omega)
  rw [hl] at h
  have := List.all_eq_true.1 h.1 t ht
  simpa [short] using this

end Go.Proofs.YtadpobnajjocnaaGreatDoor.Eng
