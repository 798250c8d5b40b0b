/-
  A token's text alone is that token. No condition.
-/
import Derived.Test.YtadpobnajjocnaaDoorTBacks
namespace Go.Proofs.YtadpobnajjocnaaDoor.Eng
open Go
set_option linter.unusedSimpArgs false
set_option linter.unusedVariables false

attribute [local simp] evC_condT evC_condF evC_reg evC_regD evR_cons evR_nil runR_some regK_some evC_ret evC_skip evC_exit Out_seq Out_blk Out_some seqQ_norm seqQ_ret seqQ_exit blkQ_norm blkQ_ret blkQ_exit loopQ_norm loopQ_ret loopQ_exit
attribute [local simp] stepR evOp put upd_apply X.ev initEnv cells_agg cells_int cells_str cells_bool cells_sl cells_ptr cells_pnil cells_fn cells_map takeN evBin isSh intBin strBin callK resOf packR V.plain plainL V.und undL scK kill dstsO dstsL dstsR ite_some ite_pair ite_vbool evUn evLoad evLen V.real finLoop_false quietK_false kill_none
theorem sizeV_le (b : List UInt8) (p : Nat) (hp : p < b.length) : (sizeV b p).1 ≤ 4 ∧ p + (sizeV b p).1 ≤ b.length ∧ (sizeV b p).2 ≤ 1114111 := by
  unfold sizeV
  have hd := byte_lt (b.getD p 0)
  generalize b.getD p 0 = x at *
  have go : ∀ n v least, n ≤ 4 → (if b.length < p + n then (0, 0) else match contV b p n (n - 1) 1 v with
    | none => (0, 0)
    | some w => if w < least ∨ 1114111 < w ∨ (55296 ≤ w ∧ w < 57344) then (0, 0) else (n, w) : Nat × Nat).1 ≤ 4 ∧
    p + (if b.length < p + n then (0, 0) else match contV b p n (n - 1) 1 v with
    | none => (0, 0)
    | some w => if w < least ∨ 1114111 < w ∨ (55296 ≤ w ∧ w < 57344) then (0, 0) else (n, w) : Nat × Nat).1 ≤ b.length ∧ (if b.length < p + n then (0, 0) else match contV b p n (n - 1) 1 v with
    | none => (0, 0)
    | some w => if w < least ∨ 1114111 < w ∨ (55296 ≤ w ∧ w < 57344) then (0, 0) else (n, w) : Nat × Nat).2 ≤ 1114111 := by
    intro n v least hn
    split
    · simp; omega
    · split
      · simp; omega
      · split
        · simp; omega
        · simp; omega
  simp only
  split
  · simp; omega
  · split
    · exact go 2 _ _ (by omega)
    · split
      · exact go 3 _ _ (by omega)
      · split
        · exact go 4 _ _ (by omega)
        · simp; omega

theorem hd0_cons (c : UInt8) (t : List UInt8) : hd0 (c :: t) = c := rfl
theorem begs_hd {l : List UInt8} {c : UInt8} {w : List UInt8} (h : begs l (c :: w) = true) : hd0 l = c := by
  rw [begs_pre, List.isPrefixOf_iff_prefix] at h
  obtain ⟨r, rfl⟩ := h
  rfl
theorem sign_low {c : UInt8} (h : isSign c = true) : c.toNat < 128 := by
  have key : ∀ k : Fin 256, isSign (UInt8.ofNat k.val) = true → (UInt8.ofNat k.val).toNat < 128 := by decide +kernel
  have := key ⟨c.toNat, c.toNat_lt⟩
  simp only [UInt8.ofNat_toNat] at this
  exact this h
theorem ld_low {c : UInt8} (h : isLd c = true) : c.toNat < 128 := by
  have key : ∀ k : Fin 256, isLd (UInt8.ofNat k.val) = true → (UInt8.ofNat k.val).toNat < 128 := by decide +kernel
  have := key ⟨c.toNat, c.toNat_lt⟩
  simp only [UInt8.ofNat_toNat] at this
  exact this h
theorem dig_ld {c : UInt8} (h : isDig c = true) : isLd c = true := by unfold isLd; rw [h, Bool.or_true]
theorem let_hd (c : UInt8) : isLet c = true → isSign c = false ∧ c ≠ 46 := by
  have key : ∀ k : Fin 256, isLet (UInt8.ofNat k.val) = true → isSign (UInt8.ofNat k.val) = false ∧ UInt8.ofNat k.val ≠ 46 := by decide +kernel
  have := key ⟨c.toNat, c.toNat_lt⟩
  simpa only [UInt8.ofNat_toNat] using this
theorem num_hd (c : UInt8) : (isDig c || decide (c = 45)) = true → isSign c = false ∧ c ≠ 46 ∧ isLet c = false := by
  have key : ∀ k : Fin 256, (isDig (UInt8.ofNat k.val) || decide (UInt8.ofNat k.val = 45)) = true → isSign (UInt8.ofNat k.val) = false ∧ UInt8.ofNat k.val ≠ 46 ∧ isLet (UInt8.ofNat k.val) = false := by decide +kernel
  have := key ⟨c.toNat, c.toNat_lt⟩
  simpa only [UInt8.ofNat_toNat] using this
theorem tw_all {p : UInt8 → Bool} : ∀ {l : List UInt8}, (∀ c ∈ l, p c = true) → l.takeWhile p = l ∧ l.dropWhile p = []
  | [], _ => ⟨rfl, rfl⟩
  | c :: l, h => by
    obtain ⟨h1, h2⟩ := tw_all (p := p) (l := l) fun d hd => h d (by simp [hd])
    rw [List.takeWhile_cons, List.dropWhile_cons, if_pos (h c (by simp)), if_pos (h c (by simp)), h1, h2]
    exact ⟨rfl, rfl⟩
theorem tdg_hd (l : List UInt8) : tdg l = [48] ∨ hd0 (tdg l) ≠ 48 := by
  unfold tdg
  split
  · exact .inl rfl
  · rename_i h
    right
    cases hn : numT l with
    | nil => rw [List.takeWhile_nil]; decide
    | cons c t =>
      rw [hn, hd0_cons] at h
      rw [List.takeWhile_cons]
      split
      · exact h
      · decide

theorem tnum_self {l s l' : List UInt8} {k : Int} (h : tnum l = .ok (k, s) l') : k = 3 ∧ s = ttx l ∧ tdg l ≠ [] ∧ tnum (ttx l) = .ok (3, ttx l) [] := by
  unfold tnum at h
  split at h
  · cases h
  rename_i hb
  split at h
  · cases h
  simp only [PR.ok.injEq, Prod.mk.injEq] at h
  obtain ⟨⟨h1, h2⟩, _⟩ := h
  have hne : tdg l ≠ [] := fun h => hb (.inl h)
  refine ⟨h1.symm, h2.symm, hne, ?_⟩
  have hdd := tdg_dig l
  have hh : hd0 (tdg l) ≠ 45 := by
    obtain ⟨c, t, hc⟩ := List.exists_cons_of_ne_nil hne
    rw [hc, hd0_cons]
    have := hdd c (by rw [hc]; simp)
    intro h45
    subst h45
    revert this
    decide
  have hT : numT (ttx l) = tdg l := by
    unfold ttx
    split
    · simp [numT]
    · obtain ⟨c, t, hc⟩ := List.exists_cons_of_ne_nil hne
      rw [hc, hd0_cons] at hh
      rw [hc, numT, if_neg hh]
  have hN : isNeg (ttx l) = isNeg l := by
    unfold ttx
    by_cases hn : isNeg l = true
    · rw [if_pos hn, hn]; rfl
    · rw [if_neg hn]
      unfold isNeg at hn ⊢
      rw [decide_eq_false hh]
      simpa using hn
  obtain ⟨a, b⟩ := tw_all hdd
  have hD : tdg (ttx l) = tdg l ∧ trs (ttx l) = [] := by
    have e1 : tdg (ttx l) = if hd0 (numT (ttx l)) = 48 then [48] else (numT (ttx l)).takeWhile isDig := rfl
    have e2 : trs (ttx l) = if hd0 (numT (ttx l)) = 48 then (numT (ttx l)).drop 1 else (numT (ttx l)).dropWhile isDig := rfl
    rw [e1, e2, hT]
    rcases tdg_hd l with h48 | h48
    · rw [h48]; exact ⟨rfl, rfl⟩
    · rw [if_neg h48, if_neg h48, a, b]
      exact ⟨rfl, rfl⟩
  have hX : ttx (ttx l) = ttx l := by
    have : ttx (ttx l) = if isNeg (ttx l) = true then 45 :: tdg (ttx l) else tdg (ttx l) := rfl
    rw [this, hN, hD.1]; rfl
  have hB : ¬ tbad (ttx l) := by unfold tbad at hb ⊢; rw [hN, hD.1]; exact hb
  unfold tnum
  rw [if_neg hB, hD.2, if_neg (by simp [nxtBad]), hX]

theorem ttx_ld (l : List UInt8) : ∀ c ∈ ttx l, c.toNat < 128 := by
  intro c hc
  unfold ttx at hc
  split at hc
  · rcases List.mem_cons.1 hc with rfl | hc
    · decide
    · exact ld_low (dig_ld (tdg_dig l c hc))
  · exact ld_low (dig_ld (tdg_dig l c hc))
theorem ttx_hd {l : List UInt8} (h : tdg l ≠ []) : (isDig (hd0 (ttx l)) || decide (hd0 (ttx l) = 45)) = true := by
  unfold ttx
  split
  · rfl
  · obtain ⟨c, t, hc⟩ := List.exists_cons_of_ne_nil h
    have := tdg_dig l c (by rw [hc]; simp)
    rw [hc, hd0_cons, this]; rfl

theorem tokP_self {l l' s : List UInt8} {k : Int} (hne : l ≠ []) (h : tokP l = .ok (k, s) l') (hk : k ≠ 4) : tokP s = .ok (k, s) [] ∧ s ≠ [] ∧ ∀ c ∈ s, c.toNat < 128 := by
  unfold tokP at h
  split at h
  · rename_i c1
    simp only [PR.ok.injEq, Prod.mk.injEq] at h
    obtain ⟨⟨rfl, rfl⟩, _⟩ := h
    refine ⟨?_, by simp, ?_⟩
    · unfold tokP
      rw [hd0_cons, if_pos c1]; rfl
    · intro c hc
      simp at hc
      subst hc
      exact sign_low c1
  rename_i c1
  split at h
  · simp only [PR.ok.injEq, Prod.mk.injEq] at h
    obtain ⟨⟨rfl, rfl⟩, _⟩ := h
    exact ⟨by rfl, by decide, by decide⟩
  rename_i c2
  split at h
  · rename_i c3
    simp only [PR.ok.injEq, Prod.mk.injEq] at h
    obtain ⟨⟨rfl, rfl⟩, _⟩ := h
    obtain ⟨c, t, rfl⟩ := List.exists_cons_of_ne_nil hne
    rw [hd0_cons] at c3
    have hall : ∀ d ∈ (c :: t).takeWhile isLd, isLd d = true := List.all_eq_true.1 List.all_takeWhile
    have hld : isLd c = true := by unfold isLd; rw [c3]; rfl
    have hx : (c :: t).takeWhile isLd = c :: t.takeWhile isLd := by rw [List.takeWhile_cons, if_pos hld]
    obtain ⟨a, b⟩ := tw_all hall
    refine ⟨?_, by rw [hx]; simp, fun d hd => ld_low (hall d hd)⟩
    obtain ⟨e1, e2⟩ := let_hd c c3
    have hh : hd0 ((c :: t).takeWhile isLd) = c := by rw [hx]; rfl
    unfold tokP
    rw [hh, if_neg (by simp [e1]), if_neg (fun hb => e2 (by rw [← hh]; exact begs_hd hb)), if_pos c3, a, b]
  rename_i c3
  split at h
  · obtain ⟨rfl, rfl, h3, h4⟩ := tnum_self h
    have hh := ttx_hd h3
    obtain ⟨e1, e2, e3⟩ := num_hd _ hh
    have hb3 : ¬ begs (ttx l) d3 = true := fun hb => e2 (begs_hd hb)
    refine ⟨?_, ?_, ttx_ld l⟩
    · unfold tokP
      rw [if_neg (by simp [e1]), if_neg hb3, if_neg (by simp [e3]), if_pos hh]
      exact h4
    · unfold ttx; split
      · simp
      · exact h3
  split at h
  · exfalso
    unfold traw at h
    split at h
    · cases h
    · split at h
      · cases h
      · simp only [PR.ok.injEq, Prod.mk.injEq] at h; exact hk h.1.1.symm
  split at h
  · exfalso
    unfold tquo at h
    split at h
    · cases h
    · simp only [PR.ok.injEq, Prod.mk.injEq] at h; exact hk h.1.1.symm
  · cases h


end Go.Proofs.YtadpobnajjocnaaDoor.Eng
