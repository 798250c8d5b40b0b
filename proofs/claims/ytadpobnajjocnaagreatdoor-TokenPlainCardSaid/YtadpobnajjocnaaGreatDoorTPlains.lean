/-
  Tokens: what the functions do, one behind the other. No condition.
-/
import Derived.Test.YtadpobnajjocnaaGreatDoorTN
/-
  The reference's quoted texts. No condition.
-/
namespace Go.Proofs.YtadpobnajjocnaaGreatDoor.Eng
open Go
set_option linter.unusedSimpArgs false
set_option linter.unusedVariables false

attribute [local simp] evC_reg evC_regD evR_cons evR_nil runR_some regK_some evC_ret evC_skip evC_exit Out_seq Out_blk Out_some seqQ_norm seqQ_ret seqQ_exit blkQ_norm blkQ_ret blkQ_exit loopQ_norm loopQ_ret loopQ_exit
attribute [local simp] stepR evOp put upd_apply X.ev initEnv cells_agg cells_int cells_str cells_bool cells_sl cells_ptr cells_pnil cells_fn cells_map takeN evBin isSh intBin strBin callK resOf packR fin V.plain plainL V.und undL scK kill dstsO dstsL dstsR ite_some ite_pair ite_vbool evUn evLoad evLen V.real finLoop_false quietK_false quietK_same kill_none

theorem plain_spec (n : Nat) (h : n < 256) (s : St) : call G 50 [.int .u8 n] s = some (.int .u8 (plainR n : Nat), s) := by
  refine call_out (F := af50) rfl rfl ?_
  simp [af50, af50b]
  refine Out_cond _ _ _ _ _ _ _ rfl (fun h1 => ?_) (fun h1 => ?_)
  · have e : n = 34 := by simp at h1; omega
    subst e
    simp
    refine Out_cond _ _ _ _ _ _ _ rfl (fun h1 => ?_) (fun h1 => by simp at h1)
    simp [plainR]
  · have e1 : ¬ n = 34 := by simp at h1; omega
    simp
    refine Out_cond _ _ _ _ _ _ _ rfl (fun h2 => ?_) (fun h2 => ?_)
    · have e : n = 92 := by simp at h2; omega
      subst e; simp [plainR]
    · have e2 : ¬ n = 92 := by simp at h2; omega
      simp
      refine Out_cond _ _ _ _ _ _ _ rfl (fun h3 => ?_) (fun h3 => ?_)
      · have e : n = 8 := by simp at h3; omega
        subst e; simp [plainR]
      · have e3 : ¬ n = 8 := by simp at h3; omega
        simp
        refine Out_cond _ _ _ _ _ _ _ rfl (fun h4 => ?_) (fun h4 => ?_)
        · have e : n = 12 := by simp at h4; omega
          subst e; simp [plainR]
        · have e4 : ¬ n = 12 := by simp at h4; omega
          simp
          refine Out_cond _ _ _ _ _ _ _ rfl (fun h5 => ?_) (fun h5 => ?_)
          · have e : n = 10 := by simp at h5; omega
            subst e; simp [plainR]
          · have e5 : ¬ n = 10 := by simp at h5; omega
            simp
            refine Out_cond _ _ _ _ _ _ _ rfl (fun h6 => ?_) (fun h6 => ?_)
            · have e : n = 13 := by simp at h6; omega
              subst e; simp [plainR]
            · have e6 : ¬ n = 13 := by simp at h6; omega
              simp
              refine Out_cond _ _ _ _ _ _ _ rfl (fun h7 => ?_) (fun h7 => ?_)
              · have e : n = 9 := by simp at h7; omega
                subst e; simp [plainR]
              · have e7 : ¬ n = 9 := by simp at h7; omega
                simp [plainR, e1, e2, e3, e4, e5, e6, e7]

theorem hex_spec (n : Nat) (h : n < 16) (s : St) : call G 51 [.int .i64 n] s = some (.str (hexR n), s) := by
  have w1 : IntKind.i64.wrap (48 + (n : Int)) = 48 + n := wrap_in (by omega) (by omega)
  have w2 : IntKind.i64.wrap (87 + (n : Int)) = 87 + n := wrap_in (by omega) (by omega)
  have w3 : IntKind.u8.wrap (48 + (n : Int)) = 48 + n := by rw [wrapU8] <;> omega
  have w4 : IntKind.u8.wrap (87 + (n : Int)) = 87 + n := by rw [wrapU8] <;> omega
  have t1 : (48 + (n : Int)).toNat = 48 + n := by omega
  have t2 : (87 + (n : Int)).toNat = 87 + n := by omega
  refine call_out (F := af51) rfl rfl ?_
  simp [af51, af51b]
  refine Out_cond _ _ _ _ _ _ _ rfl (fun h1 => ?_) (fun h1 => ?_)
  · have e : n < 10 := by simp at h1; omega
    have b1 : (0 : Int) ≤ 48 + n ∧ 48 + (n : Int) < 256 := by omega
    simp [w1, w3, fillS, V.one, bytesOf, b1, t1, hexR, e]
  · have e : ¬ n < 10 := by simp at h1; omega
    have b1 : (0 : Int) ≤ 87 + n ∧ 87 + (n : Int) < 256 := by omega
    simp [w2, w4, fillS, V.one, bytesOf, b1, t2, hexR, e]

theorem imax9 : i64max = 9223372036854775807 := rfl

theorem refQuoteLoop (b : List UInt8) (hb : b.length ≤ 1000000000) (s : St) : ∀ (m p : Nat) (env : Env) (acc : List UInt8), b.length - p = m → p ≤ b.length → acc.length ≤ 10000000000 → env 0 = .str b → env 3 = .str acc → env 4 = .int .i64 p → acc.length + 6 * m ≤ 10000000000 →
    Out (evC G (.loop false af24l0) env s) (fun e env' s' => e = .exit 0 ∧ s' = s ∧ env' 3 = .str (acc ++ (b.drop p).flatMap qByte)) := by
  intro m
  induction m with
  | zero =>
    intro p env acc hm hp ha h0 h3 h4 hl
    have : p = b.length := by omega
    subst this
    refine Out_loop G false _ _ af24l0.eq_1 _ _ _ ?_
    simp [h0, h4]
    refine Out_cond _ _ _ _ _ _ _ rfl (fun h => by simp at h) (fun _ => ?_)
    simp [h3]
  | succ m ih =>
    intro p env acc hm hp ha h0 h3 h4 hl
    have hlt : p < b.length := by omega
    have hx := (b[p]).toNat_lt
    have hget : b[p]? = some b[p] := List.getElem?_eq_getElem hlt
    have hdr := List.drop_eq_getElem_cons hlt
    have hwi : IntKind.i64.wrap ((p : Int) + 1) = ((p + 1 : Nat) : Int) := by rw [wrap_in (by omega) (by omega)]; omega
    rw [hdr, List.flatMap_cons]
    generalize hxe : b[p] = x at *
    have hpl := fun s => plain_spec x.toNat (by omega) s
    have hql : (qByte x).length ≤ 6 := by
      unfold qByte hexR
      repeat' split
      all_goals simp
    refine Out_loop G false _ _ af24l0.eq_1 _ _ _ ?_
    simp [h0, h4]
    refine Out_cond _ _ _ _ _ _ _ rfl (fun _ => ?_) (fun h => by simp at h; omega)
    simp [h0, h4, hget, hpl]
    have fin_ : ∀ env' : Env, env' 0 = .str b → env' 3 = .str (acc ++ qByte x) → env' 4 = .int .i64 (p + 1 : Nat) → Out (evC G (.loop false af24l0) env' s) (fun e env'' s' => e = .exit 0 ∧ s' = s ∧ env'' 3 = .str (acc ++ (qByte x ++ (b.drop (p + 1)).flatMap qByte))) := by
      intro env' g0 g3 g4
      refine Out.mono (ih (p + 1) env' (acc ++ qByte x) (by omega) (by omega) (by simp; omega) g0 g3 g4 (by simp; omega)) ?_
      rintro e env'' s' ⟨rfl, rfl, h⟩
      exact ⟨rfl, rfl, by rw [h, List.append_assoc]⟩
    refine Out_cond _ _ _ _ _ _ _ rfl (fun hp0 => ?_) (fun hp0 => ?_)
    · have hne : plainR x.toNat ≠ 0 := by simpa using hp0
      have hle : plainR x.toNat < 256 := by
        unfold plainR
        repeat' split
        all_goals omega
      have hq : qByte x = [92, UInt8.ofNat (plainR x.toNat)] := by unfold qByte; rw [if_pos hne]
      have hb2 : ((plainR x.toNat : Nat) : Int) < 256 := by omega
      have hlen2 : ((acc.length : Int) + 2 ≤ i64max) := by rw [imax9]; omega
      simp [h3, fillS, V.one, bytesOf, hb2, hlen2, h4, hwi]
      refine fin_ _ ?_ ?_ ?_
      · simp [h0]
      · simp [hq]
      · simp
    · have hne : ¬ plainR x.toNat ≠ 0 := by simpa using hp0
      simp
      refine Out_cond _ _ _ _ _ _ _ rfl (fun hc => ?_) (fun hc => ?_)
      · have hc' : x.toNat < 32 := by simp at hc; omega
        have hq : qByte x = [92, 117, 48, 48] ++ hexR (x.toNat / 16) ++ hexR (x.toNat % 16) := by unfold qByte; rw [if_neg hne, if_pos hc']
        have w1 : IntKind.i64.wrap ((x.toNat : Nat) : Int) = (x.toNat : Nat) := wrap_in (by omega) (by omega)
        have d1 : ((x.toNat : Nat) : Int).tdiv 16 = ((x.toNat / 16 : Nat) : Int) := by
          rw [Int.tdiv_eq_ediv_of_nonneg (by omega)]; omega
        have d2 : ((x.toNat : Nat) : Int).tmod 16 = ((x.toNat % 16 : Nat) : Int) := by
          rw [Int.tmod_eq_emod_of_nonneg (by omega)]; omega
        have w2 : IntKind.i64.wrap ((x.toNat / 16 : Nat) : Int) = ((x.toNat / 16 : Nat) : Int) := wrap_in (by omega) (by omega)
        have hh1 := fun s => hex_spec (x.toNat / 16) (by omega) s
        have hh2 := fun s => hex_spec (x.toNat % 16) (by omega) s
        have l1 : (hexR (x.toNat / 16)).length = 1 := by unfold hexR; split <;> rfl
        have l2 : (hexR (x.toNat % 16)).length = 1 := by unfold hexR; split <;> rfl
        have hlen2 : ((acc.length : Int) + 6 ≤ 9223372036854775807) := by omega
        simp [-Int.natCast_ediv, -Int.natCast_emod, h3, h4, hwi, w1, d1, d2, w2, hh1, hh2, l1, l2, imax9, hlen2]
        refine fin_ _ ?_ ?_ ?_
        · simp [h0]
        · simp [hq]
        · simp
      · have hc' : ¬ x.toNat < 32 := by simp at hc; omega
        have hq : qByte x = [x] := by unfold qByte; rw [if_neg hne, if_neg hc']
        have hb2 : p ≤ p + 1 ∧ p + 1 ≤ b.length := by omega
        have tk : (b.take (p + 1)).drop p = [x] := by
          rw [List.drop_take, show p + 1 - p = 1 by omega, hdr]
          rfl
        have e1 : ((p : Int) + 1).toNat = p + 1 := by omega
        have e2 : (0 : Int) ≤ (p : Int) + 1 := by omega
        have hlen2 : ((acc.length : Int) + 1 ≤ 9223372036854775807) := by omega
        simp [h0, h3, h4, hwi, evSlcS, bnd, e1, e2, hb2, tk, imax9, hlen2]
        refine fin_ _ ?_ ?_ ?_
        · simp [h0]
        · simp [hq]
        · simp

theorem qByte_len (x : UInt8) : (qByte x).length ≤ 6 := by
  unfold qByte hexR
  repeat' split
  all_goals simp
theorem flat_len : ∀ b : List UInt8, (b.flatMap qByte).length ≤ 6 * b.length
  | [] => by simp
  | x :: l => by
    have := flat_len l
    have := qByte_len x
    rw [List.flatMap_cons, List.length_append, List.length_cons]; omega

theorem refQuote_spec (b : List UInt8) (hb : b.length ≤ 1000000000) (s : St) : call G 24 [.str b] s = some (.str (quoteR b), s) := by
  have hl := flat_len b
  refine call_out (F := af24) rfl rfl ?_
  simp [af24, af24b]
  refine Out.mono (refQuoteLoop b hb s b.length 0 _ [34] (by omega) (by omega) (by simp) ?_ ?_ ?_ ?_) ?_
  · simp
  · simp
  · simp
  · simp; omega
  rintro e env' s' ⟨rfl, rfl, h⟩
  have hlen2 : (((b.flatMap qByte).length : Int) + 1 + 1 ≤ 9223372036854775807) := by omega
  simp [-List.length_flatMap, h, imax9, hlen2, quoteR]

end Go.Proofs.YtadpobnajjocnaaGreatDoor.Eng

/-
  Plain texts of tokens: the program's and the reference's are the same. No condition.
-/
namespace Go.Proofs.YtadpobnajjocnaaGreatDoor.Eng
open Go
set_option linter.unusedSimpArgs false
set_option linter.unusedVariables false

attribute [local simp] evC_condT evC_condF evC_reg evC_regD evR_cons evR_nil runR_some regK_some evC_ret evC_skip evC_exit Out_seq Out_blk Out_some seqQ_norm seqQ_ret seqQ_exit blkQ_norm blkQ_ret blkQ_exit loopQ_norm loopQ_ret loopQ_exit
attribute [local simp] stepR evOp put upd_apply X.ev initEnv cells_agg cells_int cells_str cells_bool cells_sl cells_ptr cells_pnil cells_fn cells_map takeN evBin isSh intBin strBin callK resOf packR V.plain plainL V.und undL scK kill dstsO dstsL dstsR ite_some ite_pair ite_vbool evUn evLoad evLen V.real finLoop_false quietK_false kill_none
def lexOne (t : Tok) : Bool := decide ((lexP t.s).2.1 = 0) && (match (lexP t.s).1 with | [u] => decide (u.k = t.k) && decide (u.s = t.s) | _ => false)
def plT (t : Tok) : List UInt8 := if t.k = 4 then (if rightV t.s = true then quoteV t.s else []) else if lexOne t = true then t.s else []
def anyBad (A : List Tok) : Bool := A.any fun t => decide (plT t = [])
def plainP (A : List Tok) : List UInt8 := if anyBad A = true then [] else Lib.join (A.map plT) [32]
def short (t : Tok) : Bool := decide (t.s.length ≤ 60)
def fewP (n : Int) (A : List Tok) : Bool := (A.take 100).all short && decide ((A.length : Int) ≤ n)

/-! ### Few and short -/
def fewT (A : List Tok) (i : Nat) (s : St) (ex : AExit) (env env' : Env) (s' : St) : Prop :=
  s' = s ∧ if ((A.take 100).drop i).all short = true then ex = .exit 0 ∧ env' 0 = env 0 ∧ env' 1 = env 1 else ex = .ret ∧ env' 4 = .bool false

theorem fewLoop (A : List Tok) (s : St) : ∀ (m i : Nat) (env : Env), 100 - i = m → i ≤ 100 → env 0 = .sl .no (tokVs A) → env 5 = .int .i64 i →
    Out (evC G (.loop false af11l0) env s) (fun ex env' s' => fewT A i s ex env env' s') := by
  intro m
  have htl := tokVs_len A
  induction m with
  | zero =>
    intro i env hm hi h0 h5
    have : i = 100 := by omega
    subst this
    have hd : (A.take 100).drop 100 = [] := List.drop_eq_nil_of_le (by rw [List.length_take]; omega)
    have hT : ∀ env', env' 0 = env 0 → env' 1 = env 1 → fewT A 100 s (.exit 0) env env' s := fun env' a b => by
      unfold fewT; rw [hd]; exact ⟨rfl, by rw [if_pos (by rfl)]; exact ⟨rfl, a, b⟩⟩
    generalize fewT A 100 s = T at *
    have h5' : env 5 = .int .i64 100 := h5
    refine Out_loop G false _ _ af11l0.eq_1 _ _ _ ?_
    by_cases h : 100 < A.length
    · have h' : (100 : Int) < (A.length : Int) := by omega
      simp [h0, h5', htl, h, h']
      exact hT _ (by simp [h0]) (by simp)
    · have h' : ¬ (100 : Int) < (A.length : Int) := by omega
      simp [h0, h5', htl, h, h']
      exact hT _ (by simp [h0]) (by simp)
  | succ m ih =>
    intro i env hm hi h0 h5
    have hi100 : i < 100 := by omega
    have hi100' : (i : Int) < 100 := by omega
    by_cases h : i < A.length
    · have hlt : i < (A.take 100).length := by rw [List.length_take]; omega
      have hdr := List.drop_eq_getElem_cons hlt
      rw [List.getElem_take] at hdr
      have hgm : (tokVs A)[((i : Nat) : Int).toNat]? = some (tokV A[i]) := by
        unfold tokVs
        rw [Int.toNat_natCast, List.getElem?_map, List.getElem?_eq_getElem h]; rfl
      have hw : IntKind.i64.wrap ((i : Int) + 1) = ((i + 1 : Nat) : Int) := by rw [wrap_in (by omega) (by omega)]; omega
      have hgo := fun env => ih (i + 1) env (by omega) (by omega)
      generalize A[i] = t at *
      by_cases ht : t.s.length ≤ 60
      · have hT : ∀ ex env1 env' s', env1 0 = env 0 → env1 1 = env 1 → fewT A (i + 1) s ex env1 env' s' → fewT A i s ex env env' s' := by
          intro ex env1 env' s' a b hf
          unfold fewT at hf ⊢
          rw [hdr, List.all_cons, show short t = true by simp [short, ht], Bool.true_and]
          rw [a, b] at hf
          exact hf
        clear hdr ih
        obtain ⟨k, x, a⟩ := t
        simp only at ht
        have ht' : ¬ 60 < x.length := by omega
        have ht2 : ¬ (60 : Int) < (x.length : Int) := by omega
        refine Out_loop G false _ _ af11l0.eq_1 _ _ _ ?_
        generalize fewT A i s = T at *
        simp [h0, h5, htl, h, hi100, hi100', ↓hgm, tokV, ht', ht2, hw]
        exact Out.mono (hgo _ (by simp [h0]) (by simp)) (fun ex env' s' hf => hT _ _ _ _ (by simp [h0]) (by simp) hf)
      · have hT : ∀ env', env' 4 = .bool false → fewT A i s .ret env env' s := by
          intro env' a
          unfold fewT
          rw [hdr, List.all_cons, show short t = false by simp [short]; omega, Bool.false_and]
          exact ⟨rfl, by rw [if_neg (by decide)]; exact ⟨rfl, a⟩⟩
        clear hdr ih
        obtain ⟨k, x, a⟩ := t
        simp only at ht
        have ht' : 60 < x.length := by omega
        have ht2 : (60 : Int) < (x.length : Int) := by omega
        refine Out_loop G false _ _ af11l0.eq_1 _ _ _ ?_
        generalize fewT A i s = T at *
        simp [h0, h5, htl, h, hi100, hi100', ↓hgm, tokV, ht', ht2]
        exact hT _ (by simp)
    · have hd : (A.take 100).drop i = [] := List.drop_eq_nil_of_le (by rw [List.length_take]; omega)
      have hT : ∀ env', env' 0 = env 0 → env' 1 = env 1 → fewT A i s (.exit 0) env env' s := fun env' a b => by
        unfold fewT; rw [hd]; exact ⟨rfl, by rw [if_pos (by rfl)]; exact ⟨rfl, a, b⟩⟩
      generalize fewT A i s = T at *
      refine Out_loop G false _ _ af11l0.eq_1 _ _ _ ?_
      simp [h0, h5, htl, h]
      exact hT _ (by simp [h0]) (by simp)

theorem few_spec (A : List Tok) (n : Int) (s : St) : call G 11 [.sl .no (tokVs A), .int .i64 n] s = some (.bool (fewP n A), s) := by
  have htl := tokVs_len A
  have hpl := tokVs_plain A
  refine call_out (F := af11) rfl rfl ?_
  simp [af11, af11b]
  refine Out.mono (fewLoop A s 100 0 _ rfl (by omega) (by simp [hpl]) (by simp)) ?_
  intro ex env' s' hT
  unfold fewT at hT
  rw [List.drop_zero] at hT
  obtain ⟨rfl, hT⟩ := hT
  by_cases h : (A.take 100).all short = true
  · rw [if_pos h] at hT
    obtain ⟨rfl, k0, k1⟩ := hT
    simp [hpl] at k0 k1
    simp [k0, k1, htl]
    rw [fin_id _ (v := .bool _) rfl]
    simp only [V.plain, fewP, h, Bool.true_and]
  · rw [if_neg h] at hT
    obtain ⟨rfl, k4⟩ := hT
    simp [k4]
    rw [fin_id _ (v := .bool _) rfl]
    have h' : (A.take 100).all short = false := by simpa using h
    simp only [V.plain, fewP, h', Bool.false_and]

/-! ### One token -/
theorem quoteV_ne (b : List UInt8) : quoteV b ≠ [] := by simp [quoteV]

theorem plain21_spec (t : Tok) (hl : t.s.length ≤ 1000000000) (s : St) : call G 21 [tokV t] s = some (.str (plT t), s) := by
  obtain ⟨k, x, a⟩ := t
  simp only at hl
  refine call_out (F := af21) rfl rfl ?_
  by_cases hk : k = 4
  · subst hk
    have hq := fun s => quote_spec x hl s
    by_cases hr : rightV x = true
    · simp only [hr, if_true] at hq
      simp [af21, af21b, tokV, hq]
      rw [fin_s0 _ _ _ (by rfl)]
      simp [plT, hr]
    · simp only [hr, if_false, Bool.false_eq_true] at hq
      simp [af21, af21b, tokV, hq]
      rw [fin_s0 _ _ _ (by rfl)]
      simp [plT, hr]
  · have hk1 : (k = 4) = False := eq_false hk
    have hlx := lex_spec x (by omega)
    have hpt : plT ⟨k, x, a⟩ = if lexOne ⟨k, x, a⟩ = true then x else [] := by unfold plT; rw [if_neg hk]
    have hlo : lexOne ⟨k, x, a⟩ = (decide ((lexP x).2.1 = 0) && (match (lexP x).1 with | [u] => decide (u.k = k) && decide (u.s = x) | _ => false)) := rfl
    rw [hpt, hlo]
    generalize (lexP x).1 = L at *
    generalize (lexP x).2.1 = e at *
    generalize (lexP x).2.2 = p at *
    by_cases he : e = 0
    · subst he
      match L, hlx with
      | [], hlx =>
        simp only [tokVs, List.map] at hlx
        simp [af21, af21b, tokV, hk1, hlx, fillL, putL, evStore, V.one]
        rw [fin_s0 _ _ _ (by rfl)]
        rfl
      | [u], hlx =>
        obtain ⟨uk, us, ua⟩ := u
        simp only [tokVs, tokV, List.map] at hlx
        by_cases h1 : uk = k
        · by_cases h2 : us = x
          · simp [af21, af21b, tokV, hk1, hlx, h1, h2, fillL, putL, evStore, V.one]
            rw [fin_s0 _ _ _ (by rfl)]
            rfl
          · simp [af21, af21b, tokV, hk1, hlx, h1, h2, fillL, putL, evStore, V.one]
            rw [fin_s0 _ _ _ (by rfl)]
            rfl
        · simp [af21, af21b, tokV, hk1, hlx, h1, fillL, putL, evStore, V.one]
          rw [fin_s0 _ _ _ (by rfl)]
          rfl
      | u :: v :: w, hlx =>
        simp only [tokVs, List.map] at hlx
        have hne : ¬ ((w.length : Int) + 1 + 1 = 1) := by omega
        simp [af21, af21b, tokV, hk1, hlx, hne, fillL, putL, evStore, V.one]
        rw [fin_s0 _ _ _ (by rfl)]
        rfl
    · have he1 : (e = 0) = False := eq_false he
      simp [af21, af21b, tokV, hk1, hlx, he1, fillL, putL, evStore, V.one]
      rw [fin_s0 _ _ _ (by rfl)]
      rfl

end Go.Proofs.YtadpobnajjocnaaGreatDoor.Eng

/-
  Plain texts of tokens, in the program and in the reference. No condition.
-/
namespace Go.Proofs.YtadpobnajjocnaaGreatDoor.Eng
open Go
set_option linter.unusedSimpArgs false
set_option linter.unusedVariables false

attribute [local simp] evC_condT evC_condF evC_reg evC_regD evR_cons evR_nil runR_some regK_some evC_ret evC_skip evC_exit Out_seq Out_blk Out_some seqQ_norm seqQ_ret seqQ_exit blkQ_norm blkQ_ret blkQ_exit loopQ_norm loopQ_ret loopQ_exit
attribute [local simp] stepR evOp put upd_apply X.ev initEnv cells_agg cells_int cells_str cells_bool cells_sl cells_ptr cells_pnil cells_fn cells_map takeN evBin isSh intBin strBin callK resOf packR V.plain plainL V.und undL scK kill dstsO dstsL dstsR ite_some ite_pair ite_vbool evUn evLoad evLen V.real finLoop_false quietK_false kill_none
theorem anyBad_snoc (D : List Tok) (t : Tok) : anyBad (D ++ [t]) = (anyBad D || decide (plT t = [])) := by simp [anyBad]
theorem anyBad_mid (D : List Tok) (t : Tok) (R : List Tok) (h : plT t = []) : anyBad (D ++ t :: R) = true := by simp [anyBad, h]
theorem tot_le (X : List (List UInt8)) (c : Nat) (h : ∀ x ∈ X, x.length ≤ c) : tot X ≤ X.length * (c + 1) := by
  induction X with
  | nil => simp [tot]
  | cons x X ih =>
    have h1 := h x (by simp)
    have h2 := ih fun y hy => h y (by simp [hy])
    rw [tot_cons, List.length_cons, Nat.add_mul]
    omega

theorem join_sp (X : List (List UInt8)) (h1 : X.length ≤ 1000000000) (h2 : (Lib.join X [32]).length ≤ 140737488355328) (s : St) : call G 22 [.sl .no (X.map V.str), .str [32]] s = some (.str (Lib.join X [32]), s) := by
  have hso : ∀ X : List (List UInt8), strsOf (X.map V.str) = some X := by
    intro X
    induction X with
    | nil => rfl
    | cons x X ih => simp [strsOf, ih]
  rw [call_prim G 22 _ _ primJoin rfl]
  simp only [primJoin, hso, Option.bind_some]
  rw [if_pos ⟨h1, h2⟩]

def p12T (A : List Tok) (s : St) (ex : AExit) (env' : Env) (s' : St) : Prop :=
  s'.obs.take s.obs.length = s.obs ∧ if anyBad A = true then ex = .ret ∧ env' 2 = .str [] ∧ s'.bufs.take s.bufs.length = s.bufs
    else ex = .exit 0 ∧ env' 3 = .sl (ownOf s.bufs (A.map plT)) ((A.map plT).map V.str) ∧ s'.bufs = s.bufs ++ exOf (16, 9) (A.map plT)

theorem p12Loop (A : List Tok) (hA : A.length ≤ 1000000) (hs : ∀ t ∈ A, t.s.length ≤ 1000000000) (s : St) : ∀ (R D : List Tok) (O : List AObj) (env : Env), D ++ R = A → anyBad D = false → O.take s.obs.length = s.obs →
    env 3 = .sl (ownOf s.bufs (D.map plT)) ((D.map plT).map V.str) → env 7 = .sl .no (tokVs A) → env 8 = .int .i64 A.length → env 9 = .int .i64 D.length →
    Out (evC G (.loop false af12l0) env ⟨O, s.bufs ++ exOf (16, 9) (D.map plT)⟩) (p12T A s) := by
  intro R
  induction R with
  | nil =>
    intro D O env hD hb hO h3 h7 h8 h9
    rw [List.append_nil] at hD
    subst hD
    have hT : ∀ env' : Env, env' 3 = env 3 → p12T D s (.exit 0) env' ⟨O, s.bufs ++ exOf (16, 9) (D.map plT)⟩ := fun env' e => ⟨hO, by rw [if_neg (by simp [hb])]; exact ⟨rfl, by rw [e, h3], rfl⟩⟩
    generalize p12T D s = T at *
    refine Out_loop G false _ _ af12l0.eq_1 _ _ _ ?_
    simp [h8, h9]
    exact hT _ (by simp)
  | cons t R ih =>
    intro D O env hD hb hO h3 h7 h8 h9
    have hlen : A.length = D.length + (R.length + 1) := by rw [← hD]; simp
    have hlt : D.length < A.length := by omega
    have hgm : (tokVs A)[((D.length : Nat) : Int).toNat]? = some (tokV t) := by
      unfold tokVs
      rw [Int.toNat_natCast, List.getElem?_map, ← hD, List.getElem?_append_right (Nat.le_refl _), Nat.sub_self]; rfl
    have hw : IntKind.i64.wrap ((D.length : Int) + 1) = ((D.length + 1 : Nat) : Int) := by rw [wrap_in (by omega) (by omega)]; omega
    have hp := plain21_spec t (hs t (by rw [← hD]; simp))
    have hOl : s.obs.length ≤ O.length := by
      have := congrArg List.length hO
      rw [List.length_take] at this
      omega
    have hOX : ∀ X : List AObj, (O ++ X).take s.obs.length = s.obs := fun X => by rw [List.take_append_of_le_length hOl, hO]
    have hap := fun O => app_str (D.map plT) (plT t) (by rw [List.length_map]; omega) O s.bufs
    by_cases hpt : plT t = []
    · have hbad : anyBad A = true := by rw [← hD]; exact anyBad_mid D t R hpt
      have hT : ∀ (X : List AObj) (env' : Env), env' 2 = .str [] → p12T A s .ret env' ⟨O ++ X, s.bufs ++ exOf (16, 9) (D.map plT)⟩ := fun X env' e => ⟨hOX X, by rw [if_pos hbad]; exact ⟨rfl, e, by simp⟩⟩
      clear ih hap
      generalize p12T A s = T at *
      rw [hpt] at hp
      obtain ⟨k, x, a⟩ := t
      simp only [tokV] at hgm hp
      refine Out_loop G false _ _ af12l0.eq_1 _ _ _ ?_
      simp [h7, h8, h9, hlt, ↓hgm, hp, fillL, putL, evStore, V.one]
      exact hT _ _ (by simp)
    · have hpt' : (plT t = []) = False := eq_false hpt
      have hgo := fun O env => ih (D ++ [t]) O env (by rw [← hD]; simp) (by rw [anyBad_snoc, hb]; simp [hpt])
      rw [show (D ++ [t]).map plT = D.map plT ++ [plT t] by simp, show (D ++ [t]).length = D.length + 1 by simp] at hgo
      clear ih
      generalize p12T A s = T at *
      generalize D.map plT = Y at *
      generalize plT t = y at *
      obtain ⟨k, x, a⟩ := t
      simp only [tokV] at hgm hp
      refine Out_loop G false _ _ af12l0.eq_1 _ _ _ ?_
      simp [h3, h7, h8, h9, hlt, ↓hgm, hp, hpt', fillL, fillS, putL, evStore, V.one, hap, hw]
      exact hgo _ _ (hOX _) (by simp) (by simp [h7]) (by simp [h8]) (by simp)

theorem plT_len (t : Tok) (h : t.s.length ≤ 1000) : (plT t).length ≤ 10000 := by
  unfold plT
  split
  · split
    · rename_i hr
      have := flat_len t.s
      rw [quote_ref _ hr]
      unfold quoteR
      simp only [List.length_cons, List.length_append, List.length_nil]
      omega
    · simp
  · split
    · omega
    · simp

theorem strs_plain (X : List (List UInt8)) : plainL (X.map V.str) = X.map V.str := by
  induction X with
  | nil => rfl
  | cons x X ih => simp [plainL, ih, V.plain]

theorem plain12_spec (A : List Tok) (hA : A.length ≤ 1000) (hs : ∀ t ∈ A, t.s.length ≤ 1000) (s : St) : call G 12 [.sl .no (tokVs A)] s = some (.str (plainP A), s) := by
  have htl := tokVs_len A
  have hpl := tokVs_plain A
  have e0 : s = ⟨s.obs, s.bufs ++ exOf (16, 9) (([] : List Tok).map plT)⟩ := by simp [exOf]
  have hgo := p12Loop A (by omega) (fun t ht => by have := hs t ht; omega) s A [] s.obs
  rw [← e0] at hgo
  refine call_out (F := af12) rfl rfl ?_
  simp [af12, af12b, htl, hpl]
  refine Out.mono (hgo _ rfl rfl (by rw [List.take_length]) (by simp [ownOf]) (by simp) (by simp) (by simp)) ?_
  intro ex env' s' hT
  obtain ⟨hO, hT⟩ := hT
  unfold plainP
  by_cases hb : anyBad A = true
  · rw [if_pos hb] at hT ⊢
    obtain ⟨rfl, k2, hB⟩ := hT
    simp [k2]
    rw [fin_tk hO hB (v := .str _) rfl]
    rfl
  · rw [if_neg hb] at hT ⊢
    obtain ⟨rfl, k3, hB⟩ := hT
    have h1 := tot_le (A.map plT) 10000 (fun x hx => by
      obtain ⟨t, ht, rfl⟩ := List.mem_map.1 hx
      exact plT_len t (hs t ht))
    have h2 := tot_join (A.map plT) 32
    rw [List.length_map] at h1
    have h3 : A.length * (10000 + 1) ≤ 1000 * (10000 + 1) := Nat.mul_le_mul_right _ hA
    have hj := join_sp (A.map plT) (by rw [List.length_map]; omega) (by omega)
    generalize A.map plT = Y at *
    have hsp := strs_plain Y
    simp [k3, hsp, hj]
    rw [fin_tk hO (by rw [hB]; simp) (v := .str _) rfl]
    rfl

end Go.Proofs.YtadpobnajjocnaaGreatDoor.Eng

/-
  Plain texts of tokens in the reference; the law. No condition.
-/
namespace Go.Proofs.YtadpobnajjocnaaGreatDoor.Eng
open Go
set_option linter.unusedSimpArgs false
set_option linter.unusedVariables false

attribute [local simp] evC_condT evC_condF evC_reg evC_regD evR_cons evR_nil runR_some regK_some evC_ret evC_skip evC_exit Out_seq Out_blk Out_some seqQ_norm seqQ_ret seqQ_exit blkQ_norm blkQ_ret blkQ_exit loopQ_norm loopQ_ret loopQ_exit
attribute [local simp] stepR evOp put upd_apply X.ev initEnv cells_agg cells_int cells_str cells_bool cells_sl cells_ptr cells_pnil cells_fn cells_map takeN evBin isSh intBin strBin callK resOf packR V.plain plainL V.und undL scK kill dstsO dstsL dstsR ite_some ite_pair ite_vbool evUn evLoad evLen V.real finLoop_false quietK_false kill_none
theorem join_snocS (sep : List UInt8) (X : List (List UInt8)) (x : List UInt8) : Lib.join (X ++ [x]) sep = if X = [] then x else Lib.join X sep ++ sep ++ x := by
  cases X with
  | nil => rw [if_pos rfl, List.nil_append, Lib.join_one]
  | cons y X =>
    rw [if_neg (by simp), List.cons_append, Lib.join_cons, Lib.join_cons]
    have : Lib.joinTail sep (X ++ [x]) = Lib.joinTail sep X ++ (sep ++ x) := by simp [Lib.joinTail]
    rw [this]
    simp

theorem right_spec (b : List UInt8) (hb : b.length ≤ 1000000000) (s : St) : call G 23 [.str b] s = some (.bool (rightV b), s) := by
  have hr := rbad_spec b hb
  refine call_out (F := af23) rfl rfl ?_
  simp [af23, af23b, hr]
  rw [fin_id _ (v := .bool _) rfl]
  rfl

def p13T (A : List Tok) (s : St) (ex : AExit) (env' : Env) (s' : St) : Prop :=
  s'.obs.take s.obs.length = s.obs ∧ s'.bufs = s.bufs ∧ if anyBad A = true then ex = .ret ∧ env' 2 = .str [] else ex = .exit 0 ∧ env' 3 = .str (Lib.join (A.map plT) [32])

theorem lexOne_ne {t : Tok} (h : lexOne t = true) : t.s ≠ [] := by
  intro h0
  unfold lexOne at h
  rw [h0] at h
  have : lexP [] = ([], 0, 0) := by rfl
  rw [this] at h
  simp at h

theorem p13Loop (A : List Tok) (hA : A.length ≤ 1000000) (hs : ∀ t ∈ A, t.s.length ≤ 1000000000) (hJ : tot (A.map plT) ≤ 1000000000) (s : St) : ∀ (R D : List Tok) (O : List AObj) (env : Env), D ++ R = A → anyBad D = false → O.take s.obs.length = s.obs →
    env 0 = .sl .no (tokVs A) → env 3 = .str (Lib.join (D.map plT) [32]) → env 4 = .int .i64 D.length →
    Out (evC G (.loop false af13l0) env ⟨O, s.bufs⟩) (p13T A s) := by
  intro R
  induction R with
  | nil =>
    intro D O env hD hb hO h0 h3 h4
    rw [List.append_nil] at hD
    subst hD
    have htl := tokVs_len D
    have hT : ∀ env' : Env, env' 3 = env 3 → p13T D s (.exit 0) env' ⟨O, s.bufs⟩ := fun env' e => ⟨hO, rfl, by rw [if_neg (by simp [hb])]; exact ⟨rfl, by rw [e, h3]⟩⟩
    generalize p13T D s = T at *
    refine Out_loop G false _ _ af13l0.eq_1 _ _ _ ?_
    simp [h0, h4, htl]
    exact hT _ (by simp)
  | cons t R ih =>
    intro D O env hD hb hO h0 h3 h4
    have htl := tokVs_len A
    have hlen : A.length = D.length + (R.length + 1) := by rw [← hD]; simp
    have hlt : D.length < A.length := by omega
    have hgm : (tokVs A)[((D.length : Nat) : Int).toNat]? = some (tokV t) := by
      unfold tokVs
      rw [Int.toNat_natCast, List.getElem?_map, ← hD, List.getElem?_append_right (Nat.le_refl _), Nat.sub_self]; rfl
    have hgm2 : (tokVs A)[D.length]? = some (tokV t) := by rw [Int.toNat_natCast] at hgm; exact hgm
    have hw : IntKind.i64.wrap ((D.length : Int) + 1) = ((D.length + 1 : Nat) : Int) := by rw [wrap_in (by omega) (by omega)]; omega
    have hts := hs t (by rw [← hD]; simp)
    have hOl : s.obs.length ≤ O.length := by
      have := congrArg List.length hO
      rw [List.length_take] at this
      omega
    have hOX : ∀ X : List AObj, (O ++ X).take s.obs.length = s.obs := fun X => by rw [List.take_append_of_le_length hOl, hO]
    have hbadT : plT t = [] → ∀ (O' : List AObj) (env' : Env), O'.take s.obs.length = s.obs → env' 2 = .str [] → p13T A s .ret env' ⟨O', s.bufs⟩ := fun hpt O' env' hO' e =>
      ⟨hO', rfl, by rw [if_pos (by rw [← hD]; exact anyBad_mid D t R hpt)]; exact ⟨rfl, e⟩⟩
    have hlenJ : (Lib.join (D.map plT ++ [plT t]) [32]).length ≤ 1000000000 := by
      have h1 := tot_join (D.map plT ++ [plT t]) 32
      have h2 := tot_append (D.map plT ++ [plT t]) (R.map plT)
      have h3 : D.map plT ++ [plT t] ++ R.map plT = A.map plT := by rw [← hD]; simp
      rw [h3] at h2
      omega
    have hsn := join_snocS [32] (D.map plT) (plT t)
    rw [hsn] at hlenJ
    have hmo : (D.map plT = []) ↔ D = [] := List.map_eq_nil_iff
    have hgo : plT t ≠ [] → ∀ O env, O.take s.obs.length = s.obs → env 0 = .sl .no (tokVs A) → env 3 = .str (if D.map plT = [] then plT t else Lib.join (D.map plT) [32] ++ [32] ++ plT t) → env 4 = .int .i64 ((D.length + 1 : Nat) : Int) → Out (evC G (.loop false af13l0) env ⟨O, s.bufs⟩) (p13T A s) := by
      intro hpt O env hO k0 k3 k4
      refine ih (D ++ [t]) O env (by rw [← hD]; simp) (by rw [anyBad_snoc, hb]; simp [hpt]) hO k0 ?_ (by rw [k4]; simp)
      rw [k3, show (D ++ [t]).map plT = D.map plT ++ [plT t] by simp, hsn]
    clear ih hsn
    have hx : i64max = 9223372036854775807 := rfl
    have hJ0 : D = [] → Lib.join (D.map plT) [32] = [] := fun h => by rw [h]; rfl
    generalize p13T A s = T at *
    generalize Lib.join (D.map plT) [32] = J at *
    obtain ⟨Z, hZ0, hZ1⟩ : ∃ Z : List UInt8, (D = [] → Z = []) ∧ (D ≠ [] → Z = J ++ [32]) := by
      by_cases h : D = []
      · exact ⟨[], fun _ => rfl, fun h2 => absurd h h2⟩
      · exact ⟨J ++ [32], fun h2 => absurd h2 h, fun _ => rfl⟩
    have hZy : (if D.map plT = [] then plT t else J ++ [32] ++ plT t) = Z ++ plT t := by
      by_cases h : D = []
      · rw [if_pos (hmo.2 h), hZ0 h]; rfl
      · rw [if_neg (fun h2 => h (hmo.1 h2)), hZ1 h]
    rw [hZy] at hlenJ hgo
    rw [List.length_append] at hlenJ
    have hq : (Z.length : Int) + ((plT t).length : Int) ≤ i64max := by rw [hx]; omega
    have hcond : ∀ (env : Env) (S : St), env 64 = .bool (decide (0 < D.length)) → env 3 = .str J → Out (evC G (.cond (.tmp 64) (.reg [⟨(some 65), .mov (.tmp 3)⟩, ⟨(some 66), .bin .add (.tmp 65) (.c (.str [32]))⟩, ⟨(some 3), .mov (.tmp 66)⟩]) .skip) env S)
        (fun ex env' s' => ex = .norm ∧ s' = S ∧ env' 0 = env 0 ∧ env' 3 = .str Z ∧ env' 4 = env 4 ∧ env' 5 = env 5) := by
      intro env S k64 k3
      by_cases h : D = []
      · have hz := hZ0 h
        have hj := hJ0 h
        subst h
        subst hz
        subst hj
        have k64' : env 64 = .bool false := k64
        simp [k64', k3]
      · have hpos := List.length_pos_iff.2 h
        have k64' : env 64 = .bool true := by rw [k64, decide_eq_true hpos]
        have hz := hZ1 h
        subst hz
        rw [List.length_append] at hlenJ
        simp only [List.length_singleton] at hlenJ
        have hq1 : (J.length : Int) + 1 ≤ i64max := by rw [hx]; omega
        simp [k64', k3, hq1]
    have hfin : plT t ≠ [] → ∀ (O : List AObj) (ex : AExit) (env env1 : Env) (S s1 : St), S = ⟨O, s.bufs⟩ → O.take s.obs.length = s.obs → env 0 = .sl .no (tokVs A) → env 4 = .int .i64 D.length → env 5 = .str (plT t) → (ex = .norm ∧ s1 = S ∧ env1 0 = env 0 ∧ env1 3 = .str Z ∧ env1 4 = env 4 ∧ env1 5 = env 5) →
        ex = .norm ∧ s1 = ⟨O, s.bufs⟩ ∧ env1 0 = .sl .no (tokVs A) ∧ env1 3 = .str Z ∧ env1 4 = .int .i64 D.length ∧ env1 5 = .str (plT t) := by
      rintro hpt O ex env env1 S s1 rfl hO e0 e4 e5 ⟨a1, a2, a3, a4, a5, a6⟩
      exact ⟨a1, a2, by rw [a3, e0], a4, by rw [a5, e4], by rw [a6, e5]⟩
    clear hZ0 hZ1 hZy hlenJ hJ0 hmo hJ hb
    refine Out_loop G false _ _ af13l0.eq_1 _ _ _ ?_
    by_cases hk : t.k = 4
    · have hpt0 : plT t = if rightV t.s = true then quoteV t.s else [] := by unfold plT; rw [if_pos hk]
      obtain ⟨k, x, a⟩ := t
      simp only at hk hpt0 hts
      subst hk
      simp only [tokV] at hgm hgm2
      have hrs := right_spec x (by omega)
      by_cases hr : rightV x = true
      · rw [if_pos hr, quote_ref x hr] at hpt0
        have hne : plT ⟨4, x, a⟩ ≠ [] := by rw [hpt0]; simp [quoteR]
        have hq24 := refQuote_spec x (by omega)
        rw [← hpt0] at hq24
        have hf := hfin hne
        have hg2 := hgo hne
        generalize plT ⟨4, x, a⟩ = y at *
        clear hgo hfin hbadT hpt0
        simp [h0, h3, h4, htl, hlt, ↓hgm, ↓hgm2, hrs, hr, hq24]
        refine Out.mono (hcond _ _ (by simp) (by simp [h3])) ?_
        intro ex env1 s1 hh
        obtain ⟨rfl, rfl, k0, k3, k4, k5⟩ := hf O _ _ _ _ _ rfl hO (by simp [h0]) (by simp [h4]) (by simp) hh
        simp [k0, k3, k4, k5, hq, hw]
        exact hg2 _ _ hO (by simp [k0]) (by simp) (by simp)
      · rw [if_neg hr] at hpt0
        have hr' : rightV x = false := by simpa using hr
        simp [h0, h3, h4, htl, hlt, ↓hgm, ↓hgm2, hrs, hr']
        exact hbadT hpt0 _ _ hO (by simp)
    · have hpt0 : plT t = if lexOne t = true then t.s else [] := by unfold plT; rw [if_neg hk]
      have hne0 := fun h => lexOne_ne (t := t) h
      obtain ⟨k, x, a⟩ := t
      simp only at hk hpt0 hts hne0
      have hk1 : (k = 4) = False := eq_false hk
      have hlx := rlex_spec x (by omega)
      have hlo : lexOne ⟨k, x, a⟩ = (decide ((lexP x).2.1 = 0) && (match (lexP x).1 with | [u] => decide (u.k = k) && decide (u.s = x) | _ => false)) := rfl
      rw [hlo] at hpt0 hne0
      simp only [tokV] at hgm hgm2
      generalize (lexP x).1 = L at *
      generalize (lexP x).2.1 = e at *
      generalize (lexP x).2.2 = p at *
      by_cases he : e = 0
      · subst he
        match L, hlx, hpt0, hne0 with
        | [], hlx, hpt0, hne0 =>
          simp only [tokVs, List.map] at hlx
          have hz : plT ⟨k, x, a⟩ = [] := by rw [hpt0]; simp
          have hT := hbadT hz
          clear hbadT hfin hgo hcond
          simp [h0, h3, h4, htl, hlt, ↓hgm, ↓hgm2, hk1, hlx, fillL, putL, evStore, V.one]
          exact hT _ _ (hOX _) (by simp)
        | [u], hlx, hpt0, hne0 =>
          obtain ⟨uk, us, ua⟩ := u
          simp only [tokVs, tokV, List.map] at hlx
          by_cases h1 : uk = k
          · by_cases h2 : us = x
            · have hpx : plT ⟨k, x, a⟩ = x := by rw [hpt0]; simp [h1, h2]
              have hne : plT ⟨k, x, a⟩ ≠ [] := by rw [hpx]; exact hne0 (by simp [h1, h2])
              have hf := hfin hne
              have hg2 := hgo hne
              rw [hpx] at hf hg2 hq
              clear hgo hfin hbadT hpt0
              simp [h0, h3, h4, htl, hlt, ↓hgm, ↓hgm2, hk1, hlx, h1, h2, fillL, putL, evStore, V.one]
              refine Out.mono (hcond _ _ (by simp) (by simp [h3])) ?_
              intro ex env1 s1 hh
              obtain ⟨rfl, rfl, k0, k3, k4, k5⟩ := hf _ _ _ _ _ _ rfl (hOX _) (by simp [h0]) (by simp [h4]) (by simp) hh
              simp [k0, k3, k4, k5, hq, hw]
              exact hg2 _ _ (hOX _) (by simp [k0]) (by simp) (by simp)
            · have hz : plT ⟨k, x, a⟩ = [] := by rw [hpt0]; simp [h2]
              have hT := hbadT hz
              clear hbadT hfin hgo hcond
              simp [h0, h3, h4, htl, hlt, ↓hgm, ↓hgm2, hk1, hlx, h1, h2, fillL, putL, evStore, V.one]
              exact hT _ _ (hOX _) (by simp)
          · have hz : plT ⟨k, x, a⟩ = [] := by rw [hpt0]; simp [h1]
            have hT := hbadT hz
            clear hbadT hfin hgo hcond
            simp [h0, h3, h4, htl, hlt, ↓hgm, ↓hgm2, hk1, hlx, h1, fillL, putL, evStore, V.one]
            exact hT _ _ (hOX _) (by simp)
        | u :: v :: w, hlx, hpt0, hne0 =>
          simp only [tokVs, List.map] at hlx
          have hz : plT ⟨k, x, a⟩ = [] := by rw [hpt0]; simp
          have hT := hbadT hz
          have hne : ¬ ((w.length : Int) + 1 + 1 = 1) := by omega
          clear hbadT hfin hgo hcond
          simp [h0, h3, h4, htl, hlt, ↓hgm, ↓hgm2, hk1, hlx, hne, fillL, putL, evStore, V.one]
          exact hT _ _ (hOX _) (by simp)
      · have he1 : (e = 0) = False := eq_false he
        have hz : plT ⟨k, x, a⟩ = [] := by rw [hpt0]; simp [he]
        have hT := hbadT hz
        clear hbadT hfin hgo hcond
        simp [h0, h3, h4, htl, hlt, ↓hgm, ↓hgm2, hk1, hlx, he1, fillL, putL, evStore, V.one]
        exact hT _ _ (hOX _) (by simp)

end Go.Proofs.YtadpobnajjocnaaGreatDoor.Eng

/-
  Plain texts of tokens: the law in the program. No condition.
-/
namespace Go.Proofs.YtadpobnajjocnaaGreatDoor.Eng
open Go
set_option linter.unusedSimpArgs false
set_option linter.unusedVariables false

attribute [local simp] evC_condT evC_condF evC_reg evC_regD evR_cons evR_nil runR_some regK_some evC_ret evC_skip evC_exit Out_seq Out_blk Out_some seqQ_norm seqQ_ret seqQ_exit blkQ_norm blkQ_ret blkQ_exit loopQ_norm loopQ_ret loopQ_exit
attribute [local simp] stepR evOp put upd_apply X.ev initEnv cells_agg cells_int cells_str cells_bool cells_sl cells_ptr cells_pnil cells_fn cells_map takeN evBin isSh intBin strBin callK resOf packR V.plain plainL V.und undL scK kill dstsO dstsL dstsR ite_some ite_pair ite_vbool evUn evLoad evLen V.real finLoop_false quietK_false kill_none
theorem plain13_spec (A : List Tok) (hA : A.length ≤ 1000) (hs : ∀ t ∈ A, t.s.length ≤ 1000) (s : St) : call G 13 [.sl .no (tokVs A)] s = some (.str (plainP A), s) := by
  have hpl := tokVs_plain A
  have h1 := tot_le (A.map plT) 10000 (fun x hx => by
    obtain ⟨t, ht, rfl⟩ := List.mem_map.1 hx
    exact plT_len t (hs t ht))
  rw [List.length_map] at h1
  have h3 : A.length * (10000 + 1) ≤ 1000 * (10000 + 1) := Nat.mul_le_mul_right _ hA
  have hgo := p13Loop A (by omega) (fun t ht => by have := hs t ht; omega) (by omega) s A [] s.obs
  refine call_out (F := af13) rfl rfl ?_
  simp [af13, af13b]
  refine Out.mono (hgo _ rfl rfl (by rw [List.take_length]) (by simp [hpl]) (by simp [Lib.join]) (by simp)) ?_
  intro ex env' s' hT
  obtain ⟨hO, hB, hT⟩ := hT
  unfold plainP
  by_cases hb : anyBad A = true
  · rw [if_pos hb] at hT ⊢
    obtain ⟨rfl, k2⟩ := hT
    simp [k2]
    rw [fin_tk hO (by rw [hB, List.take_length]) (v := .str _) rfl]
    rfl
  · rw [if_neg hb] at hT ⊢
    obtain ⟨rfl, k3⟩ := hT
    generalize A.map plT = Y at *
    simp [k3]
    rw [fin_tk hO (by rw [hB, List.take_length]) (v := .str _) rfl]
    rfl

theorem few_of {n : Int} {A : List Tok} (hn : n ≤ 100) (h : fewP n A = true) : (A.length : Int) ≤ n ∧ ∀ t ∈ A, t.s.length ≤ 60 := by
  unfold fewP at h
  rw [Bool.and_eq_true, decide_eq_true_eq] at h
  refine ⟨h.2, fun t ht => ?_⟩
  have hl : A.take 100 = A := List.take_of_length_le (by omega)
  rw [hl] at h
  have := List.all_eq_true.1 h.1 t ht
  simpa [short] using this

theorem plain_law (A : List Tok) (s : St) : ∃ s', call G 4 [.sl .no (tokVs A)] s = some (.bool true, s') := by
  have hpl := tokVs_plain A
  have ha := awake_spec
  have hf := few_spec A 40
  refine ⟨s, ?_⟩
  refine call_out (F := af4) rfl rfl ?_
  by_cases h : fewP 40 A = true
  · obtain ⟨h1, h2⟩ := few_of (by decide) h
    have hp1 := plain12_spec A (by omega) (fun t ht => by have := h2 t ht; omega)
    have hp2 := plain13_spec A (by omega) (fun t ht => by have := h2 t ht; omega)
    simp [af4, af4b, ha, hpl, hf, h, hp1, hp2]
    rw [fin_id _ (v := .bool _) rfl]
    rfl
  · have h' : fewP 40 A = false := by simpa using h
    simp [af4, af4b, ha, hpl, hf, h']
    rw [fin_id _ (v := .bool _) rfl]
    rfl

end Go.Proofs.YtadpobnajjocnaaGreatDoor.Eng
