/-
  The reference's functions for JSON: what they compute. No condition.
-/
import Derived.Test.YtjdppboomglenaaDoorJSpecC
namespace Go.Proofs.YtjdppboomglenaaDoor.Eng
open Go
set_option linter.unusedSimpArgs false
set_option linter.unusedVariables false

attribute [local simp] evC_reg evC_regD evR_cons evR_nil runR_some regK_some evC_ret evC_skip evC_exit Out_seq Out_blk Out_some seqQ_norm seqQ_ret seqQ_exit blkQ_norm blkQ_ret blkQ_exit loopQ_norm loopQ_ret loopQ_exit
attribute [local simp] stepR evOp put upd_apply X.ev initEnv cells_agg cells_int cells_str cells_bool cells_sl cells_ptr cells_pnil cells_fn cells_map vc_length vc_take vc_plain vc_und toVs_plain toPs_plain toVs_und toPs_und takeN evBin isSh intBin strBin callK resOf packR fin V.plain plainL V.und undL scK kill dstsO dstsL dstsR ite_some ite_pair ite_vbool evUn evLoad evLen V.real finLoop_false quietK_false quietK_same kill_none

theorem plain_spec (n : Nat) (h : n < 256) (s : St) : call G 36 [.int .u8 n] s = some (.int .u8 (plainR n : Nat), s) := by
  refine call_out (F := af36) rfl rfl ?_
  simp [af36, af36b]
  refine Out_cond _ _ _ _ _ _ _ rfl (fun h1 => ?_) (fun h1 => ?_)
  · have e : n = 34 := by simp at h1; omega
    subst e
    simp
    refine Out_cond _ _ _ _ _ _ _ rfl (fun h1 => ?_) (fun h1 => by simp at h1)
    simp [plainR]
  · have e1 : ¬ n = 34 := by simp at h1; omega
    simp
    refine Out_cond _ _ _ _ _ _ _ rfl (fun h2 => ?_) (fun h2 => ?_)
    · have e : n = 92 := by simp at h2; omega
      subst e; simp [plainR]
    · have e2 : ¬ n = 92 := by simp at h2; omega
      simp
      refine Out_cond _ _ _ _ _ _ _ rfl (fun h3 => ?_) (fun h3 => ?_)
      · have e : n = 8 := by simp at h3; omega
        subst e; simp [plainR]
      · have e3 : ¬ n = 8 := by simp at h3; omega
        simp
        refine Out_cond _ _ _ _ _ _ _ rfl (fun h4 => ?_) (fun h4 => ?_)
        · have e : n = 12 := by simp at h4; omega
          subst e; simp [plainR]
        · have e4 : ¬ n = 12 := by simp at h4; omega
          simp
          refine Out_cond _ _ _ _ _ _ _ rfl (fun h5 => ?_) (fun h5 => ?_)
          · have e : n = 10 := by simp at h5; omega
            subst e; simp [plainR]
          · have e5 : ¬ n = 10 := by simp at h5; omega
            simp
            refine Out_cond _ _ _ _ _ _ _ rfl (fun h6 => ?_) (fun h6 => ?_)
            · have e : n = 13 := by simp at h6; omega
              subst e; simp [plainR]
            · have e6 : ¬ n = 13 := by simp at h6; omega
              simp
              refine Out_cond _ _ _ _ _ _ _ rfl (fun h7 => ?_) (fun h7 => ?_)
              · have e : n = 9 := by simp at h7; omega
                subst e; simp [plainR]
              · have e7 : ¬ n = 9 := by simp at h7; omega
                simp [plainR, e1, e2, e3, e4, e5, e6, e7]

theorem hex_spec (n : Nat) (h : n < 16) (s : St) : call G 37 [.int .i64 n] s = some (.str (hexR n), s) := by
  have w1 : IntKind.i64.wrap (48 + (n : Int)) = 48 + n := wrap_in (by omega) (by omega)
  have w2 : IntKind.i64.wrap (87 + (n : Int)) = 87 + n := wrap_in (by omega) (by omega)
  have w3 : IntKind.u8.wrap (48 + (n : Int)) = 48 + n := by rw [wrapU8] <;> omega
  have w4 : IntKind.u8.wrap (87 + (n : Int)) = 87 + n := by rw [wrapU8] <;> omega
  have t1 : (48 + (n : Int)).toNat = 48 + n := by omega
  have t2 : (87 + (n : Int)).toNat = 87 + n := by omega
  refine call_out (F := af37) rfl rfl ?_
  simp [af37, af37b]
  refine Out_cond _ _ _ _ _ _ _ rfl (fun h1 => ?_) (fun h1 => ?_)
  · have e : n < 10 := by simp at h1; omega
    have b1 : (0 : Int) ≤ 48 + n ∧ 48 + (n : Int) < 256 := by omega
    simp [w1, w3, fillS, V.one, bytesOf, b1, t1, hexR, e]
  · have e : ¬ n < 10 := by simp at h1; omega
    have b1 : (0 : Int) ≤ 87 + n ∧ 87 + (n : Int) < 256 := by omega
    simp [w2, w4, fillS, V.one, bytesOf, b1, t2, hexR, e]

theorem imax9 : i64max = 9223372036854775807 := rfl

theorem refQuoteLoop (b : List UInt8) (hb : b.length ≤ 1000000000) (s : St) : ∀ (m p : Nat) (env : Env) (acc : List UInt8), b.length - p = m → p ≤ b.length → acc.length ≤ 10000000000 → env 0 = .str b → env 3 = .str acc → env 4 = .int .i64 p → acc.length + 6 * m ≤ 10000000000 →
    Out (evC G (.loop false af20l0) env s) (fun e env' s' => e = .exit 0 ∧ s' = s ∧ env' 3 = .str (acc ++ (b.drop p).flatMap qByte)) := by
  intro m
  induction m with
  | zero =>
    intro p env acc hm hp ha h0 h3 h4 hl
    have : p = b.length := by omega
    subst this
    refine Out_loop G false _ _ af20l0.eq_1 _ _ _ ?_
    simp [h0, h4]
    refine Out_cond _ _ _ _ _ _ _ rfl (fun h => by simp at h) (fun _ => ?_)
    simp [h3]
  | succ m ih =>
    intro p env acc hm hp ha h0 h3 h4 hl
    have hlt : p < b.length := by omega
    have hx := (b[p]).toNat_lt
    have hget : b[p]? = some b[p] := List.getElem?_eq_getElem hlt
    have hdr := List.drop_eq_getElem_cons hlt
    have hwi : IntKind.i64.wrap ((p : Int) + 1) = ((p + 1 : Nat) : Int) := by rw [wrap_in (by omega) (by omega)]; omega
    rw [hdr, List.flatMap_cons]
    generalize hxe : b[p] = x at *
    have hpl := fun s => plain_spec x.toNat (by omega) s
    have hql : (qByte x).length ≤ 6 := by
      unfold qByte hexR
      repeat' split
      all_goals simp
    refine Out_loop G false _ _ af20l0.eq_1 _ _ _ ?_
    simp [h0, h4]
    refine Out_cond _ _ _ _ _ _ _ rfl (fun _ => ?_) (fun h => by simp at h; omega)
    simp [h0, h4, hget, hpl]
    have fin_ : ∀ env' : Env, env' 0 = .str b → env' 3 = .str (acc ++ qByte x) → env' 4 = .int .i64 (p + 1 : Nat) → Out (evC G (.loop false af20l0) env' s) (fun e env'' s' => e = .exit 0 ∧ s' = s ∧ env'' 3 = .str (acc ++ (qByte x ++ (b.drop (p + 1)).flatMap qByte))) := by
      intro env' g0 g3 g4
      refine Out.mono (ih (p + 1) env' (acc ++ qByte x) (by omega) (by omega) (by simp; omega) g0 g3 g4 (by simp; omega)) ?_
      rintro e env'' s' ⟨rfl, rfl, h⟩
      exact ⟨rfl, rfl, by rw [h, List.append_assoc]⟩
    refine Out_cond _ _ _ _ _ _ _ rfl (fun hp0 => ?_) (fun hp0 => ?_)
    · have hne : plainR x.toNat ≠ 0 := by simpa using hp0
      have hle : plainR x.toNat < 256 := by
        unfold plainR
        repeat' split
        all_goals omega
      have hq : qByte x = [92, UInt8.ofNat (plainR x.toNat)] := by unfold qByte; rw [if_pos hne]
      have hb2 : ((plainR x.toNat : Nat) : Int) < 256 := by omega
      have hlen2 : ((acc.length : Int) + 2 ≤ i64max) := by rw [imax9]; omega
      simp [h3, fillS, V.one, bytesOf, hb2, hlen2, h4, hwi]
      refine fin_ _ ?_ ?_ ?_
      · simp [h0]
      · simp [hq]
      · simp
    · have hne : ¬ plainR x.toNat ≠ 0 := by simpa using hp0
      simp
      refine Out_cond _ _ _ _ _ _ _ rfl (fun hc => ?_) (fun hc => ?_)
      · have hc' : x.toNat < 32 := by simp at hc; omega
        have hq : qByte x = [92, 117, 48, 48] ++ hexR (x.toNat / 16) ++ hexR (x.toNat % 16) := by unfold qByte; rw [if_neg hne, if_pos hc']
        have w1 : IntKind.i64.wrap ((x.toNat : Nat) : Int) = (x.toNat : Nat) := wrap_in (by omega) (by omega)
        have d1 : ((x.toNat : Nat) : Int).tdiv 16 = ((x.toNat / 16 : Nat) : Int) := by
          rw [Int.tdiv_eq_ediv_of_nonneg (by omega)]; omega
        have d2 : ((x.toNat : Nat) : Int).tmod 16 = ((x.toNat % 16 : Nat) : Int) := by
          rw [Int.tmod_eq_emod_of_nonneg (by omega)]; omega
        have w2 : IntKind.i64.wrap ((x.toNat / 16 : Nat) : Int) = ((x.toNat / 16 : Nat) : Int) := wrap_in (by omega) (by omega)
        have hh1 := fun s => hex_spec (x.toNat / 16) (by omega) s
        have hh2 := fun s => hex_spec (x.toNat % 16) (by omega) s
        have l1 : (hexR (x.toNat / 16)).length = 1 := by unfold hexR; split <;> rfl
        have l2 : (hexR (x.toNat % 16)).length = 1 := by unfold hexR; split <;> rfl
        have hlen2 : ((acc.length : Int) + 6 ≤ 9223372036854775807) := by omega
        simp [-Int.natCast_ediv, -Int.natCast_emod, h3, h4, hwi, w1, d1, d2, w2, hh1, hh2, l1, l2, imax9, hlen2]
        refine fin_ _ ?_ ?_ ?_
        · simp [h0]
        · simp [hq]
        · simp
      · have hc' : ¬ x.toNat < 32 := by simp at hc; omega
        have hq : qByte x = [x] := by unfold qByte; rw [if_neg hne, if_neg hc']
        have hb2 : p ≤ p + 1 ∧ p + 1 ≤ b.length := by omega
        have tk : (b.take (p + 1)).drop p = [x] := by
          rw [List.drop_take, show p + 1 - p = 1 by omega, hdr]
          rfl
        have e1 : ((p : Int) + 1).toNat = p + 1 := by omega
        have e2 : (0 : Int) ≤ (p : Int) + 1 := by omega
        have hlen2 : ((acc.length : Int) + 1 ≤ 9223372036854775807) := by omega
        simp [h0, h3, h4, hwi, evSlcS, bnd, e1, e2, hb2, tk, imax9, hlen2]
        refine fin_ _ ?_ ?_ ?_
        · simp [h0]
        · simp [hq]
        · simp

theorem qByte_len (x : UInt8) : (qByte x).length ≤ 6 := by
  unfold qByte hexR
  repeat' split
  all_goals simp
theorem flat_len : ∀ b : List UInt8, (b.flatMap qByte).length ≤ 6 * b.length
  | [] => by simp
  | x :: l => by
    have := flat_len l
    have := qByte_len x
    rw [List.flatMap_cons, List.length_append, List.length_cons]; omega

theorem refQuote_spec (b : List UInt8) (hb : b.length ≤ 1000000000) (s : St) : call G 20 [.str b] s = some (.str (quoteR b), s) := by
  have hl := flat_len b
  refine call_out (F := af20) rfl rfl ?_
  simp [af20, af20b]
  refine Out.mono (refQuoteLoop b hb s b.length 0 _ [34] (by omega) (by omega) (by simp) ?_ ?_ ?_ ?_) ?_
  · simp
  · simp
  · simp
  · simp; omega
  rintro e env' s' ⟨rfl, rfl, h⟩
  have hlen2 : (((b.flatMap qByte).length : Int) + 1 + 1 ≤ 9223372036854775807) := by omega
  simp [-List.length_flatMap, h, imax9, hlen2, quoteR]

/-! ### Number -/
def dig0 (u : Nat) : List UInt8 := if u = 0 then [] else Lib.decDigits u
theorem dig0_step {u : Nat} (h : u ≠ 0) : dig0 u = dig0 (u / 10) ++ [UInt8.ofNat (48 + u % 10)] := by
  unfold dig0
  rw [if_neg h]
  by_cases hu : u < 10
  · rw [Lib.decDigits, dif_pos hu, if_pos (by omega)]
    simp [Nat.mod_eq_of_lt hu]
  · rw [Lib.decDigits, dif_neg hu, if_neg (by omega)]

theorem numLoop (s : St) : ∀ (m : Nat) (n : Int) (k : Nat) (env : Env) (acc : List UInt8) (v4 : V), 20 - k = m → k ≤ 20 → -9223372036854775808 ≤ n → n ≤ 9223372036854775807 → n.natAbs < 10 ^ m → acc.length ≤ k → env 0 = .int .i64 n → env 3 = .str acc → env 4 = v4 → env 5 = .int .i64 k →
    Out (evC G (.loop false af19l0) env s) (fun e env' s' => e = .exit 0 ∧ s' = s ∧ env' 3 = .str (dig0 n.natAbs ++ acc) ∧ env' 4 = v4) := by
  intro m
  induction m with
  | zero =>
    intro n k env acc v4 hm hk hn0 hn1 hlt ha h0 h3 h4 h5
    have : k = 20 := by omega
    subst this
    have hz : n = 0 := by omega
    subst hz
    refine Out_loop G false _ _ af19l0.eq_1 _ _ _ ?_
    simp [h5]
    refine Out_cond _ _ _ _ _ _ _ rfl (fun h => by simp at h) (fun _ => ?_)
    simp [h3, h4, dig0]
  | succ m ih =>
    intro n k env acc v4 hm hk hn0 hn1 hlt ha h0 h3 h4 h5
    have hk' : k < 20 := by omega
    have hki : ((k : Int) < 20) := by omega
    have hwi : IntKind.i64.wrap ((k : Int) + 1) = ((k + 1 : Nat) : Int) := by rw [wrap_in (by omega) (by omega)]; omega
    refine Out_loop G false _ _ af19l0.eq_1 _ _ _ ?_
    simp [h0, h5, hki]
    by_cases hz : n = 0
    · subst hz
      refine Out_cond _ _ _ _ _ _ _ rfl (fun h => by simp at h) (fun _ => ?_)
      simp [h3, h4, dig0]
    · refine Out_cond _ _ _ _ _ _ _ rfl (fun _ => ?_) (fun h => by simp at h; exact absurd h hz)
      have hu : n.natAbs ≠ 0 := by omega
      have hmod : ((n.tmod 10).natAbs) = n.natAbs % 10 := by rw [Int.natAbs_tmod]; rfl
      have hdiv : ((n.tdiv 10).natAbs) = n.natAbs / 10 := by rw [Int.natAbs_tdiv]; rfl
      have hdw : IntKind.i64.wrap (n.tdiv 10) = n.tdiv 10 := wrap_in (by omega) (by omega)
      have hdlt : (n.tdiv 10).natAbs < 10 ^ m := by rw [hdiv]; rw [Nat.pow_succ] at hlt; omega
      have fin_ : ∀ env' : Env, env' 0 = .int .i64 (n.tdiv 10) → env' 3 = .str (UInt8.ofNat (48 + n.natAbs % 10) :: acc) → env' 4 = v4 → env' 5 = .int .i64 (k + 1 : Nat) →
          Out (evC G (.loop false af19l0) env' s) (fun e env'' s' => e = .exit 0 ∧ s' = s ∧ env'' 3 = .str (dig0 n.natAbs ++ acc) ∧ env'' 4 = v4) := by
        intro env' g0 g3 g4 g5
        refine Out.mono (ih (n.tdiv 10) (k + 1) env' _ v4 (by omega) (by omega) (by omega) (by omega) hdlt (by simp; omega) g0 g3 g4 g5) ?_
        rintro e env'' s' ⟨rfl, rfl, h, h'⟩
        refine ⟨rfl, rfl, ?_, h'⟩
        rw [h, hdiv, dig0_step hu, List.append_assoc]
        rfl
      have hl2 : (1 + (acc.length : Int) ≤ 9223372036854775807) := by omega
      obtain ⟨d, hd⟩ : ∃ d, n.natAbs % 10 = d := ⟨_, rfl⟩
      have hd10 : d < 10 := by omega
      rw [hd] at fin_
      have w2 : IntKind.i64.wrap (48 + (d : Int)) = 48 + (d : Int) := by rw [wrap_in (by omega) (by omega)]
      have w3 : IntKind.u8.wrap (48 + (d : Int)) = 48 + (d : Int) := by rw [wrapU8] <;> omega
      have b0 : (0 : Int) ≤ 48 + (d : Int) := by omega
      have b1 : 48 + (d : Int) < 256 := by omega
      have t1 : (48 + (d : Int)).toNat = 48 + d := by omega
      simp [h0]
      refine Out_cond _ _ _ _ _ _ _ rfl (fun hneg => ?_) (fun hneg => ?_)
      · have hng : n.tmod 10 < 0 := by simpa using hneg
        have w1 : IntKind.i64.wrap (-n.tmod 10) = (d : Int) := by rw [wrap_in (by omega) (by omega)]; omega
        have w1' : IntKind.i64.wrap (0 - n.tmod 10) = (d : Int) := by rw [wrap_in (by omega) (by omega)]; omega
        simp [h0, h3, h5, w1, w1', w2, w3, fillS, V.one, bytesOf, b0, b1, t1, imax9, hl2, hdw, hwi]
        refine fin_ _ ?_ ?_ ?_ ?_
        · simp
        · simp
        · simp [h4]
        · simp
      · have hng : ¬ n.tmod 10 < 0 := by simpa using hneg
        have w1 : n.tmod 10 = (d : Int) := by omega
        simp [h0, h3, h5, w1, w2, w3, fillS, V.one, bytesOf, b0, b1, t1, imax9, hl2, hdw, hwi]
        refine fin_ _ ?_ ?_ ?_ ?_
        · simp
        · simp
        · simp [h4]
        · simp

theorem itoa_dig (n : Int) (h : n ≠ 0) : Lib.itoa n = if n < 0 then 45 :: dig0 n.natAbs else dig0 n.natAbs := by
  unfold Lib.itoa dig0
  have hz : ¬ n.natAbs = 0 := by omega
  rw [if_neg hz]
  split
  · rfl
  · rw [show n.toNat = n.natAbs by omega]

theorem number_spec (n : Int) (h0 : -9223372036854775808 ≤ n) (h1 : n ≤ 9223372036854775807) (s : St) : call G 19 [.int .i64 n] s = some (.str (Lib.itoa n), s) := by
  refine call_out (F := af19) rfl rfl ?_
  simp [af19, af19b]
  refine Out_cond _ _ _ _ _ _ _ rfl (fun hz => ?_) (fun hz => ?_)
  · have : n = 0 := by simpa using hz
    subst this
    have : Lib.itoa 0 = [48] := by unfold Lib.itoa; rw [if_neg (by omega), Lib.decDigits]; rfl
    simp [this]
  · have hz' : n ≠ 0 := by simpa using hz
    have hdl : (dig0 n.natAbs).length ≤ 20 := by
      have : ∀ (m u : Nat), u < 10 ^ m → (dig0 u).length ≤ m := by
        intro m
        induction m with
        | zero => intro u hu; have : u = 0 := by omega
                  subst this; simp [dig0]
        | succ m ih =>
          intro u hu
          by_cases hu0 : u = 0
          · subst hu0; simp [dig0]
          · rw [dig0_step hu0, List.length_append]
            have := ih (u / 10) (by rw [Nat.pow_succ] at hu; omega)
            simp; omega
      exact this 20 _ (by omega)
    have e20 : n.natAbs < 10 ^ 20 := by omega
    have hl2 : 1 + ((dig0 n.natAbs).length : Int) ≤ 9223372036854775807 := by omega
    have hl3 : ((dig0 n.natAbs).length : Int) ≤ 9223372036854775807 := by omega
    rw [itoa_dig n hz']
    simp
    refine Out_cond _ _ _ _ _ _ _ rfl (fun hn => ?_) (fun hn => ?_)
    · have hn' : n < 0 := by simpa using hn
      simp
      refine Out.mono (numLoop s 20 n 0 _ [] (.str [45]) (by omega) (by omega) h0 h1 e20 (by simp) ?_ ?_ ?_ ?_) ?_
      · simp
      · simp
      · simp
      · simp
      rintro e env' s' ⟨rfl, rfl, g3, g4⟩
      simp [g3, g4, hn', imax9, hl2]
    · have hn' : ¬ n < 0 := by simpa using hn
      simp
      refine Out.mono (numLoop s 20 n 0 _ [] (.str []) (by omega) (by omega) h0 h1 e20 (by simp) ?_ ?_ ?_ ?_) ?_
      · simp
      · simp
      · simp
      · simp
      rintro e env' s' ⟨rfl, rfl, g3, g4⟩
      simp [g3, g4, hn', imax9, hl3]

end Go.Proofs.YtjdppboomglenaaDoor.Eng
