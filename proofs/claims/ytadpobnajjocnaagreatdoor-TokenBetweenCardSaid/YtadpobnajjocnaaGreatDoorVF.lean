/-
  TokenBetween holds in the program. No condition.
-/
import Derived.Test.YtadpobnajjocnaaGreatDoorVE
namespace Go.Proofs.YtadpobnajjocnaaGreatDoor.Eng
open Go
set_option linter.unusedSimpArgs false
set_option linter.unusedVariables false

attribute [local simp] evC_condT evC_condF evC_reg evC_regD evR_cons evR_nil runR_some regK_some evC_ret evC_skip evC_exit Out_seq Out_blk Out_some seqQ_norm seqQ_ret seqQ_exit blkQ_norm blkQ_ret blkQ_exit loopQ_norm loopQ_ret loopQ_exit
attribute [local simp] stepR evOp put upd_apply X.ev initEnv cells_agg cells_int cells_str cells_bool cells_sl cells_ptr cells_pnil cells_fn cells_map takeN evBin isSh intBin strBin callK resOf packR V.plain plainL V.und undL scK kill dstsO dstsL dstsR ite_some ite_pair ite_vbool evUn evLoad evLen V.real finLoop_false quietK_false kill_none
def u8L (L : List Int) : List V := L.map fun n => .int .u8 n
theorem u8L_plain (L : List Int) : plainL (u8L L) = u8L L := by
  induction L with
  | nil => rfl
  | cons n L ih =>
    have e : u8L (n :: L) = .int .u8 n :: u8L L := rfl
    rw [e, plainL, ih]
    rfl
def pieceP (L : List Int) (i : Nat) : List UInt8 := match L[i]? with | none => [] | some n => pieceT (n % 7).toNat

theorem pieceP_betw (L : List Int) (i : Nat) (x : List UInt8) : betw false (pieceP L i ++ x) = betw false x := by
  unfold pieceP
  split
  · rfl
  · exact pieceT_betw _ x
theorem pieceP_low (L : List Int) (i : Nat) : ∀ c ∈ pieceP L i, c.toNat < 128 := by
  unfold pieceP
  split
  · simp
  · exact pieceT_low _
theorem pieceP_len (L : List Int) (i : Nat) : (pieceP L i).length ≤ 4 := by
  unfold pieceP
  split
  · simp
  · exact pieceT_len _

theorem piece_spec (L : List Int) (hL : ∀ n ∈ L, 0 ≤ n ∧ n < 256) (i : Nat) (s : St) : call G 14 [.sl .no (u8L L), .int .i64 i] s = some (.str (pieceP L i), s) := by
  refine call_out (F := af14) rfl rfl ?_
  have hlen : (u8L L).length = L.length := by simp [u8L]
  by_cases h : i < L.length
  · have hlt : ¬ (L.length : Int) ≤ (i : Int) := by omega
    have hge : (u8L L)[((i : Nat) : Int).toNat]? = some (.int .u8 L[i]) := by
      unfold u8L
      rw [Int.toNat_natCast, List.getElem?_map, List.getElem?_eq_getElem h]; rfl
    have hm := hL L[i] (List.getElem_mem h)
    have hp : pieceP L i = pieceT (L[i] % 7).toNat := by unfold pieceP; rw [List.getElem?_eq_getElem h]
    rw [hp]
    generalize L[i] = n at *
    have hw : IntKind.i64.wrap n = n := wrap_in (by omega) (by omega)
    have hr : n.tmod 7 = n % 7 := Int.tmod_eq_emod_of_nonneg hm.1
    have hc : n % 7 = 0 ∨ n % 7 = 1 ∨ n % 7 = 2 ∨ n % 7 = 3 ∨ n % 7 = 4 ∨ n % 7 = 5 ∨ n % 7 = 6 := by omega
    rcases hc with hc | hc | hc | hc | hc | hc | hc
    all_goals
      simp [af14, af14b, hlen, h, hlt, ↓hge, hw, hr, hc, fillS, V.one]
      rw [fin_id _ (v := .str _) rfl]
      rfl
  · have hp : pieceP L i = [] := by unfold pieceP; rw [List.getElem?_eq_none (by omega)]
    have hlt : (L.length : Int) ≤ (i : Int) := by omega
    rw [hp]
    simp [af14, af14b, hlen, h, hlt, fillS, V.one]
    rw [fin_id _ (v := .str _) rfl]
    rfl

theorem plainP_one (t : Tok) : plainP [t] = plT t := by
  have hj : Lib.join ([t].map plT) [32] = plT t := Lib.join_one _ _
  unfold plainP
  rw [hj]
  by_cases h : plT t = []
  · rw [h]; simp
  · rw [if_neg]
    simp [anyBad, h]

def betT (A : List Tok) (L : List Int) (D : List UInt8) (i : Nat) (S : St) (ex : AExit) (env env' : Env) (S' : St) : Prop :=
  ex = .exit 0 ∧ S' = S ∧ env' 9 = .str (D ++ restT (pieceP L) (A.drop i) i) ∧ env' 5 = env 5 ∧ env' 7 = env 7 ∧ env' 8 = env 8

theorem betLoop (A : List Tok) (hA : A.length ≤ 500) (hs : ∀ t ∈ A, t.s.length ≤ 500) (L : List Int) (hL : ∀ n ∈ L, 0 ≤ n ∧ n < 256) (S : St) : ∀ (m i : Nat) (D : List UInt8) (env : Env), A.length - i = m → i ≤ A.length → D.length ≤ 4 + 10005 * i →
    env 5 = .sl .no (tokVs A) → env 1 = .sl .no (u8L L) → env 9 = .str D → env 10 = .int .i64 i →
    Out (evC G (.loop false af6l0) env S) (fun ex env' S' => betT A L D i S ex env env' S') := by
  intro m
  have htl := tokVs_len A
  induction m with
  | zero =>
    intro i D env hm hi hD h5 h1 h9 h10
    have hd : A.drop i = [] := List.drop_eq_nil_of_le (by omega)
    have h : ¬ i < A.length := by omega
    have h' : ¬ (i : Int) < (A.length : Int) := by omega
    refine Out_loop G false _ _ af6l0.eq_1 _ _ _ ?_
    simp [h5, h10, htl, h, h']
    exact ⟨rfl, rfl, by simp [h9, hd, restT], by simp [h5], by simp, by simp⟩
  | succ m ih =>
    intro i D env hm hi hD h5 h1 h9 h10
    have h : i < A.length := by omega
    have h' : (i : Int) < (A.length : Int) := by omega
    have hdr := List.drop_eq_getElem_cons h
    have hw : IntKind.i64.wrap ((i : Int) + 1) = ((i + 1 : Nat) : Int) := by rw [wrap_in (by omega) (by omega)]; omega
    have hsl : ((tokVs A).drop i).take 1 = tokVs [A[i]] := by
      unfold tokVs
      rw [← List.map_drop, hdr, ← List.map_take]; rfl
    have hts := hs A[i] (List.getElem_mem h)
    have hp12 := fun s => plain12_spec [A[i]] (by simp) (by intro t ht; simp at ht; subst ht; omega) s
    rw [plainP_one] at hp12
    have hpl := plT_len A[i] (by omega)
    have hpc := piece_spec L hL (i + 1)
    have hpl2 := pieceP_len L (i + 1)
    have hT : ∀ ex env1 env' S', env1 5 = env 5 → env1 7 = env 7 → env1 8 = env 8 → betT A L (D ++ (plT A[i] ++ 32 :: pieceP L (i + 1))) (i + 1) S ex env1 env' S' → betT A L D i S ex env env' S' := by
      rintro ex env1 env' S' e5 e7 e8 ⟨q1, q2, q3, q4, q5, q6⟩
      refine ⟨q1, q2, ?_, q4.trans e5, q5.trans e7, q6.trans e8⟩
      rw [q3, hdr, restT]
      simp
    have hgo := fun env => ih (i + 1) (D ++ (plT A[i] ++ 32 :: pieceP L (i + 1))) env (by omega) (by omega) (by simp only [List.length_append, List.length_cons]; omega)
    clear ih hdr
    generalize A[i] = t at *
    have hslc : evSlc 3 (.sl .no (tokVs A)) (some (.int .i64 (i : Int))) (some (.int .i64 ((i : Int) + 1))) S = some (.sl .no (tokVs [t])) := by
      have h2 : i + 1 ≤ (tokVs A).length := by omega
      have h0 : 0 ≤ (i : Int) + 1 := by omega
      have hn : ((i : Int) + 1).toNat = i + 1 := by omega
      have hf := fits_toks A
      simp only [evSlc, bnd, if_pos (Int.natCast_nonneg i), Int.toNat_natCast, if_pos h0, hn]
      rw [if_pos ⟨by omega, h2, hf⟩]
      split
      · rename_i hc
        obtain ⟨rfl, hc⟩ := hc
        rw [List.drop_zero, List.take_of_length_le (by omega)] at hsl
        rw [hsl]
      · rw [List.drop_take, show i + 1 - i = 1 by omega, hsl]
    have hw' : IntKind.i64.wrap ((i : Int) + 1) = (i : Int) + 1 := by rw [wrap_in (by omega) (by omega)]
    have hpc' : ∀ s, call G 14 [.sl .no (u8L L), .int .i64 ((i : Int) + 1)] s = some (.str (pieceP L (i + 1)), s) := by
      intro s; have := hpc s; rw [show ((i + 1 : Nat) : Int) = (i : Int) + 1 by omega] at this; exact this
    have e64 : i64max = 9223372036854775807 := rfl
    have hplt := tokVs_plain [t]
    have hplu := u8L_plain L
    have l1' : ((plT t).length : Int) + 1 ≤ 9223372036854775807 := by omega
    have l2' : ((plT t).length : Int) + 1 + ((pieceP L (i + 1)).length : Int) ≤ 9223372036854775807 := by omega
    have l3' : (D.length : Int) + (((plT t).length : Int) + (((pieceP L (i + 1)).length : Int) + 1)) ≤ 9223372036854775807 := by omega
    have l1 : (plT t).length + 1 ≤ 9223372036854775807 := by omega
    have l2 : (plT t).length + 1 + (pieceP L (i + 1)).length ≤ 9223372036854775807 := by omega
    have l3 : D.length + ((plT t).length + 1 + (pieceP L (i + 1)).length) ≤ 9223372036854775807 := by omega
    refine Out_loop G false _ _ af6l0.eq_1 _ _ _ ?_
    generalize hB : betT A L D i S = B at *
    simp [h5, h1, h9, h10, htl, h, h', hw', hslc, hp12, hpc', e64, l1, l2, l3, l1', l2', l3', hplt, hplu]
    refine Out.mono (hgo _ (by simp [h5]) (by simp [h1]) (by simp) (by simp)) (fun ex env' S' hf => ?_)
    exact hT _ _ _ _ (by simp [h5]) (by simp) (by simp) hf

theorem restT_len (L : List Int) : ∀ (A : List Tok) (i : Nat), (∀ t ∈ A, t.s.length ≤ 500) → (restT (pieceP L) A i).length ≤ 10005 * A.length
  | [], _, _ => by simp [restT]
  | t :: A, i, h => by
    have h1 := plT_len t (by have := h t (by simp); omega)
    have h2 := pieceP_len L (i + 1)
    have ih := restT_len L A (i + 1) fun u hu => h u (by simp [hu])
    rw [restT]
    simp only [List.length_append, List.length_cons]
    omega

theorem between_law (b : List UInt8) (L : List Int) (hL : ∀ n ∈ L, 0 ≤ n ∧ n < 256) (s : St) (hb : b.length ≤ 9223372036854775807) : ∃ s', call G 6 [.str b, .sl .no (u8L L)] s = some (.bool true, s') := by
  have hplu := u8L_plain L
  have hlu : (u8L L).length = L.length := by simp [u8L]
  have ha := awake_spec
  refine ⟨s, ?_⟩
  refine call_out (F := af6) rfl rfl ?_
  by_cases h5 : 500 < b.length
  · have h5' : (500 : Int) < (b.length : Int) := by omega
    simp [af6, af6b, ha, hplu, h5, h5']
    rw [fin_id _ (v := .bool _) rfl]
    rfl
  have h5' : ¬ (500 : Int) < (b.length : Int) := by omega
  by_cases h1 : 100 < L.length
  · have h1' : (100 : Int) < (L.length : Int) := by omega
    simp [af6, af6b, ha, hplu, hlu, h5, h5', h1, h1']
    rw [fin_id _ (v := .bool _) rfl]
    rfl
  have h1' : ¬ (100 : Int) < (L.length : Int) := by omega
  have hlx := lex_spec b hb
  by_cases he : (lexP b).2.1 = 0
  · obtain ⟨hok, hlen⟩ := lexP_toks (b := b) (A := (lexP b).1) (fa := (lexP b).2.2) (by rw [← he])
    generalize (lexP b).1 = A at *
    generalize (lexP b).2.2 = fa at *
    rw [he] at hlx
    clear he
    have htl := tokVs_len A
    have hpl := tokVs_plain A
    have hbad := okT_bad hok
    have hts : ∀ t ∈ A, t.s.length ≤ 500 := fun t ht => Nat.le_trans (hok t ht).2 (by omega)
    have hp1 := plain12_spec A (by omega) (fun t ht => by have := hts t ht; omega)
    have hlen1 := tot_le (A.map plT) 10000 (fun x hx => by
      obtain ⟨t, ht, rfl⟩ := List.mem_map.1 hx
      exact plT_len t (by have := hts t ht; omega))
    rw [List.length_map] at hlen1
    have hj := tot_join (A.map plT) 32
    have hpe : plainP A = Lib.join (A.map plT) [32] := by unfold plainP; rw [if_neg (by simp [hbad])]
    have hlx2 := lex_spec (plainP A) (by rw [hpe]; omega)
    by_cases hl1 : 4000 < (plainP A).length
    · have h6 : lexP (plainP A) = ([], 6, 0) := by unfold lexP; rw [if_pos hl1]
      rw [h6] at hlx2
      generalize plainP A = P at *
      simp [af6, af6b, ha, hplu, hlu, h5, h5', h1, h1', hlx, hpl, hp1, hlx2, tokVs_plain, fillL, putL, evStore, V.one]
      rw [fin_s0 _ _ _ (by rfl)]
      rfl
    · obtain ⟨T, hT, hk⟩ := lexP_plain hbad (by omega) (by rw [← hpe]; omega)
      rw [← hpe] at hT
      rw [hT] at hlx2
      have hsm := sameN_spec A T (by omega) hk.symm
      have hpT := tokVs_plain T
      generalize plainP A = P at *
      have hpc : ∀ s, call G 14 [.sl .no (u8L L), .int .i64 0] s = some (.str (pieceP L 0), s) := piece_spec L hL 0
      have hpcl := pieceP_len L 0
      have hgo := fun S env => betLoop A (by omega) hts L hL S A.length 0 (pieceP L 0) env (by omega) (by omega) (by omega)
      have hR : (pieceP L 0 ++ restT (pieceP L) A 0).length ≤ 9223372036854775807 := by
        have := restT_len L A 0 hts
        rw [List.length_append]; omega
      have hlx3 := lex_spec (pieceP L 0 ++ restT (pieceP L) A 0) hR
      have hlp := lexP_pieces (P := pieceP L) (pieceP_betw L) (pieceP_low L) hbad (by omega)
      simp [af6, af6b, ha, hplu, hlu, h5, h5', h1, h1', hlx, hpl, hp1, hlx2, hpT, hpc, fillL, putL, evStore, V.one]
      refine Out.mono (hgo _ _ (by simp) (by simp) (by simp) (by simp)) ?_
      rintro ex env' S' ⟨rfl, rfl, k9, k5, k7, k8⟩
      simp at k5 k7 k8
      rw [List.drop_zero] at k9
      generalize pieceP L 0 ++ restT (pieceP L) A 0 = R at *
      by_cases hl2 : 4000 < R.length
      · have h6 : lexP R = ([], 6, 0) := by unfold lexP; rw [if_pos hl2]
        rw [h6] at hlx3
        simp [k5, k7, k8, k9, hlx3, tokVs_plain, fillL, putL, evStore, V.one]
        rw [fin_s0 _ _ _ (by rfl)]
        rfl
      · obtain ⟨T2, hT2, hk2⟩ := hlp (by omega)
        rw [hT2] at hlx3
        have hsm2 := sameN_spec A T2 (by omega) hk2.symm
        have hpT2 := tokVs_plain T2
        simp [k5, k7, k8, k9, hpl, hlx3, hpT, hpT2, hsm, hsm2, fillL, putL, evStore, V.one, evEqs, eqCells, eqCell]
        rw [fin_s0 _ _ _ (by rfl)]
        rfl
  · have hA : (lexP b).1 = [] := by
      unfold lexP at he ⊢
      split
      · rfl
      · split
        · rfl
        · rename_i c1 c2
          rw [if_neg c1, if_neg c2] at he
          split
          · rename_i hq; rw [hq] at he; exact absurd rfl he
          · rfl
    have he' : ((lexP b).2.1 = 0) = False := eq_false he
    rw [hA] at hlx
    generalize (lexP b).2.1 = e at *
    generalize (lexP b).2.2 = p at *
    simp [af6, af6b, ha, hplu, hlu, h5, h5', h1, h1', hlx, he', tokVs, fillL, putL, evStore, V.one]
    rw [fin_s0 _ _ _ (by rfl)]
    rfl

end Go.Proofs.YtadpobnajjocnaaGreatDoor.Eng
