/-
  The queue of texts: Delete, Take. No condition.
-/
import Derived.Test.YtaljmhlblanhaaaQStr2
namespace Go.Proofs.Ytaljmhlblanhaaa.Eng.Qs
open Go Go.Proofs.Ytaljmhlblanhaaa.Eng
set_option linter.unusedSimpArgs false
set_option linter.unusedVariables false

attribute [local simp] evC_reg evC_regD evR_cons evR_nil runR_some regK_some evC_ret evC_skip evC_exit Out_seq Out_blk Out_some seqQ_norm seqQ_ret seqQ_exit blkQ_norm blkQ_ret blkQ_exit loopQ_norm loopQ_ret loopQ_exit
attribute [local simp] stepR evOp put upd_apply X.ev initEnv cells_agg cells_int cells_str cells_bool cells_sl cells_ptr cells_pnil cells_fn cells_map takeN evBin isSh intBin strBin callK resOf packR fin V.plain plainL V.und undL scK kill dstsO dstsL dstsR ite_some ite_pair ite_vbool evUn evLoad evLen V.real finLoop_false quietK_false kill_none

theorem del_app {s : St} {a n : Nat} (L : List E) (rest : List V) (hn : L.length = n + 1) (i : Nat) (hi : i ≤ n) (ha : s.obs[a]? = some (.arr 63 (fl L ++ rest))) :
    ∃ y, evSlc 2 (.msl a 2 0 (n + 1)) (some (.int .i64 (i + 1))) none s = some y ∧
      evAppm 2 (24, 63) (.msl a 2 0 i) y s = some (.msl a 2 0 n, ⟨s.obs.set a (.arr 63 (fl (L.eraseIdx i) ++ (fl (L.drop n) ++ rest))), s.bufs⟩) := by
  have hlen : (fl L ++ rest).length = (n + 1) * 2 + rest.length := by simp [hn]
  have hb : bnd (some (.int .i64 ((i : Int) + 1))) 0 = some (i + 1) := by simp [bnd]; omega
  have he : L.eraseIdx i = L.take i ++ L.drop (i + 1) := List.eraseIdx_eq_take_drop_succ L i
  by_cases hin : i = n
  · subst hin
    refine ⟨.sl .no [], ?_, ?_⟩
    · simp only [evSlc, hb, ha]
      simp only [bnd]
      rw [if_pos (by rw [hlen]; ((repeat' apply And.intro) <;> first | trivial | omega))]
      simp
    · have hsrc : srcCells 2 (.sl .no []) s = some ([], 0) := by simp [srcCells, fits]
      simp only [evAppm, hsrc]
      have : fl (L.eraseIdx i) ++ (fl (L.drop i) ++ rest) = fl L ++ rest := by
        rw [he, List.drop_of_length_le (i := i + 1) (by omega), List.append_nil, ← List.append_assoc, ← fl_append, List.take_append_drop]
      rw [this]
      simp only [if_true, Option.some.injEq, Prod.mk.injEq, true_and]
      have : s.obs.set a (.arr 63 (fl L ++ rest)) = s.obs := by
        obtain ⟨h1, h2⟩ := List.getElem?_eq_some_iff.1 ha
        rw [← h2]; simp
      rw [this]
  · refine ⟨.msl a 2 (0 + (i + 1) * 2) (n + 1 - (i + 1)), ?_, ?_⟩
    · simp only [evSlc, hb, ha]
      simp only [bnd]
      rw [if_pos (by rw [hlen]; ((repeat' apply And.intro) <;> first | trivial | omega)), if_neg (by omega)]
    · have hdr : ((fl L ++ rest).drop (0 + (i + 1) * 2)).take ((n + 1 - (i + 1)) * 2) = fl (L.drop (i + 1)) := by
        rw [Nat.zero_add, List.drop_append_of_le_length (by simp; omega), fl_drop, List.take_append_of_le_length (by simp; omega), List.take_of_length_le (by simp; omega)]
      have hsrc : srcCells 2 (.msl a 2 (0 + (i + 1) * 2) (n + 1 - (i + 1))) s = some (fl (L.drop (i + 1)), n + 1 - (i + 1)) := by
        simp only [srcCells, ha]
        rw [hdr, if_pos ⟨trivial, by rw [hlen]; omega, fl_one _⟩]
      simp only [evAppm, hsrc, ha]
      have hp : putL (fl L ++ rest) (0 + i * 2) (fl (L.drop (i + 1))) = fl (L.eraseIdx i) ++ (fl (L.drop n) ++ rest) := by
        have e3 : 0 + i * 2 + (fl (L.drop (i + 1))).length = n * 2 := by simp; omega
        rw [putL_eq _ _ _ (by rw [e3, hlen]; omega), e3, Nat.zero_add, List.take_append_of_le_length (by simp; omega), fl_take, List.drop_append_of_le_length (by simp; omega), fl_drop, he, fl_append, List.append_assoc]
      rw [if_neg (by omega), if_pos ⟨trivial, trivial⟩, if_pos (by rw [hlen]; ((repeat' apply And.intro) <;> first | trivial | omega)), hp]
      simp
      omega

theorem del_spec {s : St} {a n : Nat} (L : List E) (rest : List V) (hn : L.length = n + 1) (i : Nat) (hi : i ≤ n) (hN : n ≤ 1000000) (ha : s.obs[a]? = some (.arr 63 (fl L ++ rest))) :
    call G 22 [.msl a 2 0 (n + 1), .int .i64 i, .int .i64 (i + 1)] s = some (.msl a 2 0 n, ⟨s.obs.set a (.arr 63 (fl (L.eraseIdx i) ++ (.str [] :: .int .i64 0 :: rest))), s.bufs⟩) := by
  have hlen : (fl L ++ rest).length = (n + 1) * 2 + rest.length := by simp [hn]
  have hlt := obs_lt ha
  have hb : bnd (some (.int .i64 ((i : Int) + 1))) 0 = some (i + 1) := by simp [bnd]; omega
  have hb0 : bnd (some (.int .i64 (i : Int))) 0 = some i := by simp [bnd]
  have hbi : bnd (some (.int .i64 (i : Int))) (n + 1) = some i := by simp [bnd]
  have hbn : bnd (some (.int .i64 (n : Int))) 0 = some n := by simp [bnd]
  have hbn1 : ∀ d, bnd (some (.int .i64 ((n : Int) + 1))) d = some (n + 1) := fun d => by simp [bnd]; omega
  obtain ⟨y, hy, hap⟩ := del_app L rest hn i hi ha
  have s3 : evSlc3 2 (.msl a 2 0 (n + 1)) (.int .i64 i) (.int .i64 (i + 1)) (.int .i64 (n + 1)) s = some .junk := by
    simp only [evSlc3, hb, hb0, hbn1, ha]
    rw [if_pos (by rw [hlen]; ((repeat' apply And.intro) <;> first | trivial | omega))]
  have s0 : evSlc 2 (.msl a 2 0 (n + 1)) none (some (.int .i64 i)) s = some (.msl a 2 0 i) := by
    simp only [evSlc, hbi, ha]
    simp only [bnd]
    rw [if_pos (by rw [hlen]; ((repeat' apply And.intro) <;> first | trivial | omega)), if_neg (by omega)]
    simp
  generalize hcs : fl (L.eraseIdx i) ++ (fl (L.drop n) ++ rest) = cs1 at hap
  have hl1 : cs1.length = (n + 1) * 2 + rest.length := by
    rw [← hcs]
    have : (L.eraseIdx i).length = n := by rw [List.length_eraseIdx]; split <;> omega
    simp [this, hn]; omega
  have h1 : (s.obs.set a (.arr 63 cs1))[a]? = some (.arr 63 cs1) := by simp [hlt]
  have s5 : evSlc 2 (.msl a 2 0 n) (some (.int .i64 n)) (some (.int .i64 (n + 1))) ⟨s.obs.set a (.arr 63 cs1), s.bufs⟩ = some (.msl a 2 (0 + n * 2) (n + 1 - n)) := by
    simp only [evSlc, hbn, hbn1, h1]
    rw [if_pos (by rw [hl1]; ((repeat' apply And.intro) <;> first | trivial | omega)), if_neg (by omega)]
  have hp : putL cs1 (0 + n * 2) (List.replicate (n + 1 - n) (V.cells (.agg [.str [], .int .i64 0]))).flatten = fl (L.eraseIdx i) ++ (.str [] :: .int .i64 0 :: rest) := by
    have e : n + 1 - n = 1 := by omega
    have hle : (L.eraseIdx i).length = n := by rw [List.length_eraseIdx]; split <;> omega
    have hf : (fl (L.drop n)).length = 2 := by simp; omega
    rw [e]
    rw [putL_eq _ _ _ (by rw [hl1]; simp [V.cells]; omega), ← hcs, Nat.zero_add]
    rw [List.take_append_of_le_length (by simp; omega), List.take_of_length_le (by simp; omega)]
    rw [List.drop_append, List.drop_of_length_le (by simp; omega), fl_length, hle]
    have : (n * 2 + (List.replicate 1 (V.cells (.agg [.str [], .int .i64 0]))).flatten.length - n * 2) = 2 := by simp [V.cells]
    rw [this, List.drop_append, List.drop_of_length_le (by omega), hf]
    simp [V.cells]
  have s6 : evClr 2 (.agg [.str [], .int .i64 0]) (.msl a 2 (0 + n * 2) (n + 1 - n)) ⟨s.obs.set a (.arr 63 cs1), s.bufs⟩ = some (.tup [], ⟨s.obs.set a (.arr 63 (fl (L.eraseIdx i) ++ (.str [] :: .int .i64 0 :: rest))), s.bufs⟩) := by
    simp only [evClr, h1]
    rw [if_pos ⟨trivial, by rw [hl1]; omega⟩, hp]
    simp
  rw [Nat.zero_add, Nat.add_sub_cancel_left] at s5 s6
  refine call_out (F := af22) rfl rfl ?_
  simp [af22, af22b, s3]
  refine Out_cond _ _ _ _ _ _ _ rfl (fun h => by simp at h; omega) (fun _ => ?_)
  simp [s0, hy, hap, s5, s6]

def inc (e : E) : E := (e.1, e.2 + 1)

theorem fl_set (L : List E) (rest : List V) (k : Nat) (hk : k < L.length) (z : Int) : putL (fl L ++ rest) (k * 2 + 1) [.int .i64 z] = fl (L.set k (L[k].1, z)) ++ rest := by
  have hs : L.set k (L[k].1, z) = L.take k ++ (L[k].1, z) :: L.drop (k + 1) := by rw [List.set_eq_take_append_cons_drop, if_pos hk]
  rw [putL_eq _ _ _ (by simp; omega), hs, fl_append]
  have h1 : (fl L ++ rest).take (k * 2 + 1) = fl (L.take k) ++ [tv L[k].1] := by
    have := congrArg (List.take 1) (fl_at hk rest)
    rw [List.take_append_of_le_length (by simp; omega), List.take_add_one, fl_take]
    have h2 : (fl L)[k * 2]? = some (tv L[k].1) := by
      have h3 := congrArg (·[0]?) (fl_at hk rest)
      simp only [List.getElem?_drop, List.getElem?_cons_zero, Nat.add_zero] at h3
      rw [List.getElem?_append_left (by simp; omega)] at h3
      exact h3
    rw [h2]
    rfl
  have h2 : (fl L ++ rest).drop (k * 2 + 1 + 1) = fl (L.drop (k + 1)) ++ rest := by
    have : k * 2 + 1 + 1 = (k + 1) * 2 := by omega
    rw [this, List.drop_append_of_le_length (by simp; omega), fl_drop]
  rw [h1]
  simp only [List.length_cons, List.length_nil, Nat.zero_add]
  rw [h2]
  simp [fl]

theorem incLoop {q a n : Nat} {p : Int} {rest : List V} (hn : n ≤ 1000000) (hqa : a ≠ q) :
    ∀ (m k : Nat) (M : List E) (s : St) (env : Env), n - k = m → k ≤ n → M.length = n → (∀ e ∈ M, 0 ≤ e.2 ∧ e.2 ≤ 1000000 + k) → s.obs[q]? = some (.cells 61 [.int .i64 p, .msl a 2 0 n]) → s.obs[a]? = some (.arr 63 (fl M ++ rest)) →
      env 0 = .ptr q 0 → env 43 = .int .i64 n → env 44 = .int .i64 k →
      Out (evC G (.loop false af16l0) env s) (fun e env' s' => e = .exit 0 ∧ env' 8 = env 8 ∧ s' = ⟨s.obs.set a (.arr 63 (fl (M.take k ++ (M.drop k).map inc) ++ rest)), s.bufs⟩) := by
  intro m
  induction m with
  | zero =>
    intro k M s env hm hk hM hage h1 h2 g0 g43 g44
    have : k = n := by omega
    subst this
    generalize hF : fl (M.take k ++ (M.drop k).map inc) ++ rest = F
    rw [List.take_of_length_le (by omega), List.drop_of_length_le (by omega), List.map_nil, List.append_nil] at hF
    refine Out_loop G false _ _ af16l0.eq_1 _ _ _ ?_
    simp [g43, g44]
    refine Out_cond _ _ _ _ _ _ _ rfl (fun h => by simp at h) (fun _ => ?_)
    have hset : s.obs.set a (.arr 63 (fl M ++ rest)) = s.obs := by
      obtain ⟨h1, h2⟩ := List.getElem?_eq_some_iff.1 h2
      rw [← h2]; simp
    rw [← hF, hset]
    simp
  | succ m ihm =>
    intro k M s env hm hk hM hage h1 h2 g0 g43 g44
    have hlt : k < M.length := by omega
    have hkn : (k : Int) < n := by omega
    have hat := fl_at hlt rest
    have hat1 : ((fl M ++ rest).drop (k * 2 + 1)).head? = some (.int .i64 M[k].2) := by
      rw [← List.drop_drop, hat]; rfl
    have hage1 := hage _ (List.getElem_mem hlt)
    have hwa : IntKind.i64.wrap (M[k].2 + 1) = M[k].2 + 1 := wrap_in (by omega) (by omega)
    have hwk : IntKind.i64.wrap ((k : Int) + 1) = ((k + 1 : Nat) : Int) := by rw [wrap_in (by omega) (by omega)]; omega
    have hput := fl_set M rest k hlt (M[k].2 + 1)
    have hst : evStore 1 (.ptr a (k * 2 + 1)) (.int .i64 (M[k].2 + 1)) s = some (.tup [], ⟨s.obs.set a (.arr 63 (fl (M.set k (M[k].1, M[k].2 + 1)) ++ rest)), s.bufs⟩) := by
      simp only [evStore, h2]
      rw [if_pos ⟨rfl, by simp; omega, rfl⟩]
      simp only [cells_int, hput]
    have hld : evLoad none (.ptr a (k * 2 + 1)) s = some (.int .i64 M[k].2, s) := by
      simp only [evLoad, h2, takeN, hat1, Option.map_some]
    have hld0 : evLoad none (.ptr q 1) s = some (.msl a 2 0 n, s) := by simp [evLoad, h1]
    generalize hF : fl (M.take k ++ (M.drop k).map inc) ++ rest = F
    refine Out_loop G false _ _ af16l0.eq_1 _ _ _ ?_
    simp [g43, g44, -evLoad]
    refine Out_cond _ _ _ _ _ _ _ rfl (fun _ => ?_) (fun h => by simp at h; omega)
    simp [g0, g44, hkn, hst, hld, hld0, hwa, hwk, -evLoad]
    refine (ihm (k + 1) (M.set k (M[k].1, M[k].2 + 1)) ⟨s.obs.set a (.arr 63 (fl (M.set k (M[k].1, M[k].2 + 1)) ++ rest)), s.bufs⟩ _ (by omega) (by omega) (by simp [hM]) ?_ ?_ ?_ ?_ ?_ ?_).mono ?_
    · intro e he
      rcases List.mem_or_eq_of_mem_set he with he | rfl
      · have := hage e he
        omega
      · simp
        omega
    · rw [List.getElem?_set_ne hqa]; exact h1
    · simp [obs_lt h2]
    · simp [g0]
    · simp [g43]
    · simp
    · rintro e env' s' ⟨rfl, h8, rfl⟩
      refine ⟨rfl, by rw [h8]; simp, ?_⟩
      have hM1 : (M.set k (M[k].1, M[k].2 + 1)).take (k + 1) ++ ((M.set k (M[k].1, M[k].2 + 1)).drop (k + 1)).map inc = M.take k ++ (M.drop k).map inc := by
        rw [List.drop_set_of_lt (by omega), List.drop_eq_getElem_cons hlt, List.map_cons, List.take_add_one, List.take_set_of_le (by omega)]
        simp [hlt, inc]
      rw [hM1, hF, List.set_set]
theorem take_none {s : St} {q : Nat} {a : Option Nat} {p : Int} (h : QS s q a p []) (pick : Int) : call G 16 [.ptr q 0, .int .i64 pick] s = some (.tup [.str [], .bool false], s) := by
  refine call_out (F := af16) rfl rfl ?_
  cases a with
  | none =>
    obtain ⟨_, h⟩ := h
    simp [af16, af16b, h]
    refine Out_cond _ _ _ _ _ _ _ rfl (fun _ => ?_) (fun h => by simp at h)
    simp
  | some a =>
    obtain ⟨h, _⟩ := h
    simp [af16, af16b, h]
    refine Out_cond _ _ _ _ _ _ _ rfl (fun _ => ?_) (fun h => by simp at h)
    simp

theorem take_spec {s : St} {q : Nat} {a : Nat} {p : Int} {L : List E} (h : QS s q (some a) p L) (hL : L.length ≤ 1000000) (hage : ∀ e ∈ L, 0 ≤ e.2 ∧ e.2 ≤ 1000000) (pick : Int) (e : E)
    (he : L[(nextV p L pick).toNat]? = some e) :
    ∃ s', call G 16 [.ptr q 0, .int .i64 pick] s = some (.tup [tv e.1, .bool true], s') ∧ QS s' q (some a) p ((L.eraseIdx (nextV p L pick).toNat).map inc) ∧ s'.obs.length = s.obs.length ∧
      (∀ i, i ≠ q → i ≠ a → s'.obs[i]? = s.obs[i]?) ∧ s'.bufs = s.bufs := by
  have hlt := h.lt
  have hne : L ≠ [] := by rintro rfl; simp at he
  have hnx := next_spec h hL hne pick
  have hb := nextV_lt p L pick hne
  generalize hi : (nextV p L pick).toNat = i at he ⊢
  have hni : nextV p L pick = (i : Int) := by omega
  rw [hni] at hnx hb
  obtain ⟨n, hn⟩ : ∃ n, L.length = n + 1 := ⟨L.length - 1, by have := List.length_pos_iff.2 hne; omega⟩
  obtain ⟨h1, rest, k, h2, h3, h4⟩ := h
  rw [hn] at h1 hb
  obtain ⟨ha, haq⟩ := hlt.2 a rfl
  have hil : i < L.length := by omega
  have hdel := del_spec L rest hn i (by omega) (by omega) h2
  have hat := fl_at hil rest
  have hei : L[i] = e := by simpa [hil] using he
  have hld0 : evLoad none (.ptr q 1) s = some (.msl a 2 0 (n + 1), s) := by simp [evLoad, h1]
  have hldx : evLoad none (.ptr a (i * 2)) s = some (tv e.1, s) := by
    simp only [evLoad, h2, takeN, hat, List.head?_cons, Option.map_some, hei]
  have hws : IntKind.i64.wrap ((i : Int) + 1) = (i : Int) + 1 := wrap_in (by omega) (by omega)
  have hin : (i : Int) < n + 1 := by omega
  generalize hR : (.str [] :: .int .i64 0 :: rest : List V) = rest' at hdel
  have hle : (L.eraseIdx i).length = n := by rw [List.length_eraseIdx]; split <;> omega
  let s1 : St := ⟨s.obs.set a (.arr 63 (fl (L.eraseIdx i) ++ rest')), s.bufs⟩
  let s2 : St := ⟨s1.obs.set q (.cells 61 [.int .i64 p, .msl a 2 0 n]), s.bufs⟩
  have hdel' : call G 22 [.msl a 2 0 (n + 1), .int .i64 i, .int .i64 (i + 1)] s = some (.msl a 2 0 n, s1) := hdel
  have hq1 : s1.obs[q]? = some (.cells 61 [.int .i64 p, .msl a 2 0 (n + 1)]) := by
    show (s.obs.set a _)[q]? = _
    rw [List.getElem?_set_ne haq]; exact h1
  have hst : evStore 1 (.ptr q 1) (.msl a 2 0 n) s1 = some (.tup [], s2) := by
    simp only [evStore, hq1]
    rw [if_pos ⟨rfl, by simp, rfl⟩]
    rfl
  have hq2 : s2.obs[q]? = some (.cells 61 [.int .i64 p, .msl a 2 0 n]) := by
    show (s1.obs.set q _)[q]? = _
    rw [List.getElem?_set_self (obs_lt hq1)]
  have ha2 : s2.obs[a]? = some (.arr 63 (fl (L.eraseIdx i) ++ rest')) := by
    show ((s.obs.set a _).set q _)[a]? = _
    rw [List.getElem?_set_ne (Ne.symm haq), List.getElem?_set_self ha]
  have hld2 : evLoad none (.ptr q 1) s2 = some (.msl a 2 0 n, s2) := by simp [evLoad, hq2]
  refine ⟨⟨s2.obs.set a (.arr 63 (fl ((L.eraseIdx i).map inc) ++ rest')), s.bufs⟩, ?_, ?_, ?_, ?_, rfl⟩
  · refine call_out (F := af16) rfl rfl ?_
    simp [af16, af16b, hld0, -evLoad]
    refine Out_cond _ _ _ _ _ _ _ rfl (fun h => by simp at h; omega) (fun _ => ?_)
    simp [hnx, hld0, hldx, hin, hws, hdel', hst, hld2, -evLoad]
    refine (incLoop (q := q) (a := a) (n := n) (p := p) (rest := rest') (by omega) haq n 0 (L.eraseIdx i) s2 _ (by omega) (by omega) hle (fun e he => ?_) hq2 ha2 (by simp) (by simp) (by simp)).mono ?_
    · have := hage e (List.mem_of_mem_eraseIdx he)
      omega
    · rintro e' env' s' ⟨rfl, h8, rfl⟩
      simp [h8]
      rfl
  · refine ⟨?_, rest', k + 1, ?_, ?_, ?_⟩
    · rw [List.getElem?_set_ne haq, hq2]
      simp [hle]
    · rw [List.getElem?_set_self (obs_lt ha2)]
    · rw [← hR]
      simp only [List.all_cons, h3, Bool.and_true]
      rfl
    · rw [← hR]; simp [h4]; omega
  · simp [s2, s1]
  · intro j hj1 hj2
    show (((s.obs.set a _).set q _).set a _)[j]? = _
    rw [List.getElem?_set_ne (Ne.symm hj2), List.getElem?_set_ne (Ne.symm hj1), List.getElem?_set_ne (Ne.symm hj2)]
end Go.Proofs.Ytaljmhlblanhaaa.Eng.Qs
