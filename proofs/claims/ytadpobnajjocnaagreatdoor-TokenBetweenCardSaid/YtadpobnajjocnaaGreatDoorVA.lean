/-
  Right texts that are cut; what a quoted text holds is right. No condition.
-/
import Derived.Test.YtadpobnajjocnaaGreatDoorTBacks
namespace Go.Proofs.YtadpobnajjocnaaGreatDoor.Eng
open Go
set_option linter.unusedSimpArgs false
set_option linter.unusedVariables false

attribute [local simp] evC_condT evC_condF evC_reg evC_regD evR_cons evR_nil runR_some regK_some evC_ret evC_skip evC_exit Out_seq Out_blk Out_some seqQ_norm seqQ_ret seqQ_exit blkQ_norm blkQ_ret blkQ_exit loopQ_norm loopQ_ret loopQ_exit
attribute [local simp] stepR evOp put upd_apply X.ev initEnv cells_agg cells_int cells_str cells_bool cells_sl cells_ptr cells_pnil cells_fn cells_map takeN evBin isSh intBin strBin callK resOf packR V.plain plainL V.und undL scK kill dstsO dstsL dstsR ite_some ite_pair ite_vbool evUn evLoad evLen V.real finLoop_false quietK_false kill_none
/-! ### Right texts that are cut -/
theorem badV_fuel (b : List UInt8) : ∀ (f g p : Nat), badV b f p = -1 → b.length < p + f → badV b g p = -1 := by
  intro f
  induction f with
  | zero =>
    intro g p _ hf
    cases g with
    | zero => rfl
    | succ g => rw [badV, if_neg (by omega)]
  | succ f ih =>
    intro g p h hf
    by_cases hq : p < b.length
    · obtain ⟨h1, h2⟩ := badV_neg b f p hq h
      cases g with
      | zero => rfl
      | succ g =>
        rw [badV, if_pos hq, if_neg h1]
        exact ih g _ h2 (by omega)
    · cases g with
      | zero => rfl
      | succ g => rw [badV, if_neg hq]

theorem badV_unshift {x y : List UInt8} : ∀ (f q g : Nat), badV (x ++ y) f (x.length + q) = -1 → (x ++ y).length < x.length + q + f → badV y g q = -1 := by
  intro f
  induction f with
  | zero =>
    intro q g h hf
    rw [List.length_append] at hf
    cases g with
    | zero => rfl
    | succ g => rw [badV, if_neg (by omega)]
  | succ f ih =>
    intro q g h hf
    rw [List.length_append] at hf
    by_cases hq : q < y.length
    · have hp : x.length + q < (x ++ y).length := by rw [List.length_append]; omega
      obtain ⟨h1, h2⟩ := badV_neg (x ++ y) f _ hp h
      have hle := (sizeV_le (x ++ y) _ hp).2.1
      rw [List.length_append] at hle
      have hs : sizeV y q = sizeV (x ++ y) (x.length + q) := sizeV_congr h1 (by omega) (fun j hj => by rw [Nat.add_assoc]; exact getD_app_r.symm)
      cases g with
      | zero => rfl
      | succ g =>
        rw [badV, if_pos hq, hs, if_neg h1]
        rw [Nat.add_assoc] at h2
        exact ih _ g h2 (by rw [List.length_append]; omega)
    · cases g with
      | zero => rfl
      | succ g => rw [badV, if_neg hq]

theorem badV_cut {x y : List UInt8} (hy : ∀ c t, y = c :: t → c.toNat < 128) : ∀ (f p g g' : Nat), p ≤ x.length → badV (x ++ y) f p = -1 → (x ++ y).length < p + f → badV x g p = -1 ∧ badV (x ++ y) g' x.length = -1 := by
  intro f
  induction f with
  | zero => intro p g g' hp _ hf; rw [List.length_append] at hf; omega
  | succ f ih =>
    intro p g g' hp h hf
    by_cases hq : p < x.length
    · have hpl : p < (x ++ y).length := by rw [List.length_append]; omega
      obtain ⟨h1, h2⟩ := badV_neg (x ++ y) f p hpl h
      have hle := (sizeV_le (x ++ y) p hpl).2.1
      have hn : p + (sizeV (x ++ y) p).1 ≤ x.length := by
        apply Decidable.byContradiction
        intro hc
        rw [List.length_append] at hle
        obtain ⟨_, hb⟩ := size_bytes (x ++ y) p hpl h1
        rcases hb with ⟨g1, _, _⟩ | ⟨_, g2⟩
        · omega
        · cases y with
          | nil => simp only [List.length_nil] at hle; omega
          | cons c t =>
            have hm : c ∈ ((x ++ c :: t).drop p).take (sizeV (x ++ c :: t) p).1 := by
              rw [List.drop_append_of_le_length hp, List.take_append]
              refine List.mem_append_right _ ?_
              rw [List.length_drop]
              obtain ⟨m, hm⟩ : ∃ m, (sizeV (x ++ c :: t) p).1 - (x.length - p) = m + 1 := ⟨(sizeV (x ++ c :: t) p).1 - (x.length - p) - 1, by omega⟩
              rw [hm, List.take_succ_cons]
              exact List.mem_cons_self
            have := g2 c hm
            have := hy c t rfl
            omega
      have hs : sizeV x p = sizeV (x ++ y) p := sizeV_congr h1 hn (fun j hj => (getD_app_l (by omega)).symm)
      obtain ⟨i1, i2⟩ := ih (p + (sizeV (x ++ y) p).1) (g - 1) g' hn h2 (by omega)
      refine ⟨?_, i2⟩
      cases g with
      | zero => rfl
      | succ g =>
        rw [badV, if_pos hq, hs, if_neg h1]
        exact i1
    · have : p = x.length := by omega
      subst this
      refine ⟨?_, badV_fuel _ _ _ _ h hf⟩
      cases g with
      | zero => rfl
      | succ g => rw [badV, if_neg (by omega)]

theorem right_iff {b : List UInt8} : rightV b = true ↔ badV b (b.length + 1) 0 = -1 := by unfold rightV; rw [decide_eq_true_eq]
/-- A right text, cut where a sign of ASCII stands: both are right. -/
theorem right_cut {x y : List UInt8} (h : rightV (x ++ y) = true) (hy : ∀ c t, y = c :: t → c.toNat < 128) : rightV x = true ∧ rightV y = true := by
  rw [right_iff] at h
  obtain ⟨h1, h2⟩ := badV_cut hy ((x ++ y).length + 1) 0 (x.length + 1) ((x ++ y).length + 1) (Nat.zero_le _) h (by omega)
  refine ⟨right_iff.2 h1, right_iff.2 ?_⟩
  exact badV_unshift _ 0 _ h2 (by omega)

theorem badV_walk {x y : List UInt8} : ∀ (f p g g' : Nat), p ≤ x.length → badV x f p = -1 → x.length < p + f → badV (x ++ y) g p = -1 → (x ++ y).length < p + g → badV (x ++ y) g' x.length = -1 := by
  intro f
  induction f with
  | zero => intro p g g' hp _ hf; omega
  | succ f ih =>
    intro p g g' hp h hf hg hgf
    by_cases hq : p < x.length
    · obtain ⟨h1, h2⟩ := badV_neg x f p hq h
      have hle := (sizeV_le x p hq).2.1
      have hs : sizeV (x ++ y) p = sizeV x p := sizeV_congr h1 (by rw [List.length_append]; omega) (fun j hj => getD_app_l (by omega))
      cases g with
      | zero => rw [List.length_append] at hgf; omega
      | succ g =>
        obtain ⟨h3, h4⟩ := badV_neg (x ++ y) g p (by rw [List.length_append]; omega) hg
        rw [hs] at h3 h4
        exact ih _ g g' hle h2 (by omega) h4 (by omega)
    · have : p = x.length := by omega
      subst this
      exact badV_fuel _ _ _ _ hg hgf
theorem right_cancel {x y : List UInt8} (h : rightV (x ++ y) = true) (hx : rightV x = true) : rightV y = true := by
  rw [right_iff] at h hx ⊢
  have := badV_walk (x := x) (y := y) (x.length + 1) 0 ((x ++ y).length + 1) ((x ++ y).length + 1) (Nat.zero_le _) hx (by omega) h (by omega)
  exact badV_unshift _ 0 _ this (by omega)
theorem right_tail {c : UInt8} {t : List UInt8} (h : rightV (c :: t) = true) (hc : c.toNat < 128) : rightV t = true := right_cancel (x := [c]) h (right_one hc)

theorem right_case {l : List UInt8} (h : rightV l = true) : l = [] ∨ (∃ c t, l = c :: t ∧ c.toNat < 128 ∧ rightV t = true) ∨
    ∃ ch r, l = ch ++ r ∧ ch ≠ [] ∧ (∀ x ∈ ch, 128 ≤ x.toNat) ∧ rightV ch = true ∧ rightV r = true := by
  cases l with
  | nil => exact .inl rfl
  | cons c t =>
    right
    by_cases hc : c.toNat < 128
    · exact .inl ⟨c, t, rfl, hc, right_tail h hc⟩
    · right
      have hb := right_iff.1 h
      obtain ⟨h1, _⟩ := badV_neg (c :: t) _ 0 (by simp) hb
      have hch := right_chunk (s := c :: t) (p := 0) (by simp) h1
      rw [List.drop_zero] at hch
      obtain ⟨_, hy⟩ := size_bytes (c :: t) 0 (by simp) h1
      rw [List.drop_zero] at hy
      rcases hy with ⟨g1, g2, g3⟩ | ⟨_, g2⟩
      · exact absurd g3 hc
      · refine ⟨_, (c :: t).drop (sizeV (c :: t) 0).1, (List.take_append_drop _ _).symm, ?_, g2, hch, ?_⟩
        · intro hn
          have := congrArg List.length hn
          rw [List.length_take] at this
          simp at this
          omega
        · refine right_cancel (x := (c :: t).take (sizeV (c :: t) 0).1) ?_ hch
          rw [List.take_append_drop]; exact h

theorem right_enc {c : Nat} (h : runeOk c) : rightV (encV c) = true := by
  have hs := sizeV_enc c [] h
  rw [List.append_nil] at hs
  have hl := encV_len c
  have := right_chunk (s := encV c) (p := 0) (by omega) (by rw [hs]; simp only; omega)
  rw [hs, List.drop_zero, List.take_length] at this
  exact this

/-! ### A quoted text is right -/
theorem ubody_right : ∀ (f : Nat) (l acc : List UInt8), rightV acc = true → ∀ t l', ubody f l acc = .ok t l' → rightV t = true
  | 0, l, acc, _, t, l', h => by simp [ubody] at h
  | f + 1, l, acc, ha, t, l', h => by
    rw [ubody] at h
    split at h
    · cases h
    rename_i hne
    have hpos := List.length_pos_iff.2 hne
    split at h
    · cases h; exact ha
    split at h
    · cases h
    split at h
    · cases h
    split at h
    · split at h
      · cases h
      · rename_i he
        obtain ⟨c, hc, hok, _⟩ := escR_ok l he
        refine ubody_right f _ _ (right_app ha ?_) t l' h
        rw [hc, Int.toNat_natCast]
        exact right_enc hok
    · exact ubody_right f _ _ (right_app ha (right_enc (decV_ok l 0 hpos))) t l' h
theorem punq_right {l t l' : List UInt8} (h : punq l = .ok t l') : rightV t = true := by
  unfold punq at h
  split at h
  · exact ubody_right _ _ [] right_nil t l' h
  · cases h

end Go.Proofs.YtadpobnajjocnaaGreatDoor.Eng
