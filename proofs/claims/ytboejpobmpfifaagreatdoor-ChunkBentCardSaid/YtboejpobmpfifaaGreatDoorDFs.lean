/-
  Payloads: what the functions do, one behind the other. No condition.
-/
import Derived.Test.YtboejpobmpfifaaGreatDoorDAs
/-
  A payload's value read again: its parts. No condition.
-/
namespace Go.Proofs.YtboejpobmpfifaaGreatDoor.Eng
open Go
set_option linter.unusedSimpArgs false
set_option linter.unusedVariables false

attribute [local simp] evC_condT evC_condF evC_reg evC_regD evR_cons evR_nil runR_some regK_some evC_ret evC_skip evC_exit Out_seq Out_blk Out_some seqQ_norm seqQ_ret seqQ_exit blkQ_norm blkQ_ret blkQ_exit loopQ_norm loopQ_ret loopQ_exit
attribute [local simp] stepR evOp put upd_apply X.ev initEnv cells_agg cells_int cells_str cells_bool cells_sl cells_ptr cells_pnil cells_fn cells_map vc_length vc_take vc_plain vc_und toVs_plain toPs_plain toVs_und toPs_und takeN evBin isSh intBin strBin callK resOf packR fin V.plain plainL V.und undL scK kill dstsO dstsL dstsR ite_some ite_pair ite_vbool evUn evLoad evLen V.real finLoop_false quietK_false quietK_same kill_none
attribute [local simp] pSs_plain pSs_und erVs_plain erVs_und pnVs_plain pnVs_und
attribute [local simp] sgVs_plain sgVs_und
/-! ### What is written of a payload is read as it was -/
theorem pu_app : ∀ (l m : List UInt8) (acc a : Nat), Lib.parseUint10 acc l = .ok a → Lib.parseUint10 acc (l ++ m) = Lib.parseUint10 a m
  | [], m, acc, a, h => by
    simp only [Lib.parseUint10] at h
    injection h with h
    rw [h]; rfl
  | c :: r, m, acc, a, h => by
    simp only [Lib.parseUint10, List.cons_append] at h ⊢
    split at h
    · rename_i h1
      rw [if_pos h1]
      split at h
      · cases h
      · rename_i h2
        rw [if_neg h2]
        split at h
        · cases h
        · rename_i h3
          rw [if_neg h3]
          exact pu_app r m _ a h
    · cases h
theorem pu_one (acc d : Nat) (hd : d < 10) (h : acc < 100000000000000000) : Lib.parseUint10 acc [UInt8.ofNat (48 + d)] = .ok (acc * 10 + d) := by
  have e : (UInt8.ofNat (48 + d)).toNat = 48 + d := by simp; omega
  simp only [Lib.parseUint10, e]
  rw [if_pos (by omega), if_neg (by omega), if_neg (by omega)]
  congr 1
  omega
theorem dec_step (u : Nat) (h : ¬ u < 10) : Lib.decDigits u = Lib.decDigits (u / 10) ++ [UInt8.ofNat (48 + u % 10)] := by
  rw [Lib.decDigits, dif_neg h]
theorem dec_small (u : Nat) (h : u < 10) : Lib.decDigits u = [UInt8.ofNat (48 + u)] := by
  rw [Lib.decDigits, dif_pos h]
theorem pu_dec : ∀ (n u : Nat), u < n → u < 100000000000000000 → Lib.parseUint10 0 (Lib.decDigits u) = .ok u
  | 0, u, h, _ => by omega
  | n + 1, u, h, hb => by
    by_cases hu : u < 10
    · rw [dec_small u hu, pu_one 0 u hu (by omega)]
      simp
    · rw [dec_step u hu, pu_app _ _ _ _ (pu_dec n (u / 10) (by omega) (by omega)), pu_one _ _ (by omega) (by omega)]
      congr 1
      omega
theorem dec_head : ∀ (n u : Nat), u < n → ∃ c r, Lib.decDigits u = c :: r ∧ 48 ≤ c.toNat ∧ c.toNat ≤ 57
  | 0, u, h => by omega
  | n + 1, u, h => by
    by_cases hu : u < 10
    · refine ⟨_, _, dec_small u hu, ?_, ?_⟩ <;> simp <;> omega
    · obtain ⟨c, r, e, h1, h2⟩ := dec_head n (u / 10) (by omega)
      rw [dec_step u hu, e]
      exact ⟨c, _, rfl, h1, h2⟩
theorem id_back {n : Int} (h0 : 0 ≤ n) (h1 : n ≤ 9007199254740991) : idOf (idJ n) = n := by
  obtain ⟨u, rfl⟩ : ∃ u : Nat, n = u := ⟨n.toNat, by omega⟩
  obtain ⟨c, r, e, c0, c1⟩ := dec_head (u + 1) u (by omega)
  have hp := pu_dec (u + 1) u (by omega) (by omega)
  have hi : Lib.itoa (u : Int) = Lib.decDigits u := by
    unfold Lib.itoa
    rw [if_neg (by omega)]
    simp
  have ha : Lib.atoiAll (Lib.decDigits u) = .ok (u : Int) := by
    rw [e] at hp ⊢
    have h43 : ¬ (c.toNat = 43 ∨ c.toNat = 45) := by omega
    have h45 : ¬ c.toNat = 45 := by omega
    have hb : ¬ 9223372036854775808 ≤ u := by omega
    have hm : Lib.parseMag (c :: r) = .ok u := by
      unfold Lib.parseMag
      rw [if_neg (by simp), hp]
    simp only [Lib.atoiAll]
    rw [if_neg h43, hm]
    simp only
    rw [if_neg (fun q => hb q.2), if_neg (fun q => h45 q.1), if_neg h45]
  simp only [idOf, idJ, JV.s, hi, ha]

theorem step_back {x : PStep} (h : x.rightB = true) : stepOf (stepJ x) = some x := by
  obtain ⟨k, a, i⟩ := x
  cases i with
  | true =>
    simp only [PStep.rightB, if_true, Bool.and_eq_true, decide_eq_true_eq] at h
    obtain ⟨⟨rfl, h1⟩, _⟩ := h
    simp [stepJ, stepOf, JV.kind, JV.n, h1]
  | false =>
    simp only [PStep.rightB, Bool.false_eq_true, if_false, Bool.and_eq_true, decide_eq_true_eq] at h
    obtain ⟨rfl, _⟩ := h
    simp [stepJ, stepOf, JV.kind, JV.s]
theorem steps_back : ∀ {l : List PStep}, l.all PStep.rightB = true → stepsOf (l.map stepJ) = some l
  | [], _ => rfl
  | x :: l, h => by
    simp only [List.all_cons, Bool.and_eq_true] at h
    simp only [List.map_cons, stepsOf, step_back h.1, steps_back h.2, Option.bind_some, Option.map_some]
theorem tree_step {x : PStep} (h : x.rightB = true) : treeV (stepJ x) 11 = true := by
  obtain ⟨k, a, i⟩ := x
  cases i with
  | true =>
    simp only [PStep.rightB, if_true, Bool.and_eq_true, decide_eq_true_eq] at h
    obtain ⟨⟨_, h1⟩, h2⟩ := h
    simp only [stepJ, if_true, treeV]
    simp [unusedV]
    omega
  | false =>
    simp only [PStep.rightB, Bool.false_eq_true, if_false, Bool.and_eq_true] at h
    simp only [stepJ, Bool.false_eq_true, if_false, treeV]
    simp [unusedV, h.2]
theorem tree_steps : ∀ {l : List PStep}, l.all PStep.rightB = true → treeVs (l.map stepJ) 11 = true
  | [], _ => rfl
  | x :: l, h => by
    simp only [List.all_cons, Bool.and_eq_true] at h
    simp only [List.map_cons, treeVs, tree_step h.1, tree_steps h.2, Bool.and_self]
theorem path_back {l : List PStep} (h : pathR l = true) : (pathOf (pathJ l)).1 = l := by
  have h' := h
  simp only [pathR, Bool.and_eq_true] at h'
  have ht : treeV (pathJ l) 12 = true := by
    simp only [pathJ, treeV]
    have := tree_steps h'.2
    simp [unusedV, this]
  unfold pathOf
  rw [if_pos ⟨ht, by rfl⟩]
  have hs : stepsOf (pathJ l).l = some l := steps_back h'.2
  rw [hs]
  simp [h]

theorem map_id' {α : Type} {f : α → α} : ∀ {l : List α}, (∀ x ∈ l, f x = x) → l.map f = l
  | [], _ => rfl
  | x :: l, h => by rw [List.map_cons, h x (by simp), map_id' (fun y hy => h y (by simp [hy]))]
theorem gk_eq (k : List UInt8) (v : JV) (r : List (List UInt8 × JV)) : getK ((k, v) :: r) k = some v := by simp [getK]
theorem gk_ne {k k' : List UInt8} (v : JV) (r : List (List UInt8 × JV)) (h : k' ≠ k) : getK ((k', v) :: r) k = getK r k := by simp [getK, h]

theorem errs_back {l : List PErr} (h : ∀ e ∈ l, pathR e.path = true) : (errsR l).l.map rdErr = l := by
  simp only [errsR, lstJ, JV.l, List.map_map]
  refine map_id' fun e he => ?_
  have := path_back (h e he)
  obtain ⟨pa, ee⟩ := e
  simp only at this
  simp [rdErr, errR, atK, getK, JV.f, kCode, kPath, JV.n, this]
theorem pens_back {l : List PPen} (h : ∀ x ∈ l, x.okB = true) : (lstJ (l.map penR)).l.map rdPen = l := by
  simp only [lstJ, JV.l, List.map_map]
  refine map_id' fun x hx => ?_
  have hk := h x hx
  simp only [PPen.okB, Bool.and_eq_true, decide_eq_true_eq, Bool.or_eq_true] at hk
  obtain ⟨⟨⟨⟨h0, h1⟩, h2⟩, _⟩, h3⟩ := hk
  have hp := path_back h2
  have hi := id_back h0 h1
  obtain ⟨i, pa, la, na⟩ := x
  simp only at hp hi h3
  cases na with
  | true => simp [rdPen, penR, atK, getK, JV.f, kId, kPath, kLabel, strJ, JV.s, hp, hi]
  | false =>
    have hl : la = [] := by simpa using h3
    subst hl
    simp [rdPen, penR, atK, getK, JV.f, kId, kPath, kLabel, strJ, JV.s, hp, hi, jNull]
theorem ord_back (l : List (List UInt8)) : (lstJ (l.map strJ)).l.map JV.s = l := by
  simp only [lstJ, JV.l, List.map_map]
  exact map_id' fun x _ => rfl

/-- A key's value in what is put together. -/
theorem gk_if {k k' : List UInt8} (b : Bool) (v : JV) (r : List (List UInt8 × JV)) : getK ((if b = true then [(k', v)] else []) ++ r) k = if b = true ∧ k' = k then some v else getK r k := by
  cases b <;> simp [getK]
  by_cases h : k' = k <;> simp [h]
theorem gk_ie {k k' : List UInt8} (c : Prop) [Decidable c] (v : JV) (r : List (List UInt8 × JV)) : getK ((if c then [] else [(k', v)]) ++ r) k = if ¬ c ∧ k' = k then some v else getK r k := by
  by_cases hc : c <;> simp [hc, getK]
  by_cases h : k' = k <;> simp [h]

theorem read_first (d : JV) (er : List PErr) (pe : List PPen) (mo : Bool) (hE : ∀ e ∈ er, pathR e.path = true) (hP : ∀ x ∈ pe, x.okB = true) :
    readP (payR ⟨true, d, er, pe, false, 0, false, [], false, false, mo⟩) = ⟨true, d, er, pe, false, 0, false, [], false, false, mo⟩ := by
  have hF : (payR ⟨true, d, er, pe, false, 0, false, [], false, false, mo⟩).f = (kData, d) :: ((if er = [] then [] else [(kErrors, errsR er)]) ++ ((if pe = [] then [] else [(kPending, lstJ (pe.map penR))]) ++ [(kNext, flagJ mo)])) := by
    simp [payR, f1R, f2R, f3R, f4R, JV.f]
  generalize payR ⟨true, d, er, pe, false, 0, false, [], false, false, mo⟩ = R at *
  have k1 : getK R.f kData = some d := by rw [hF, gk_eq]
  have k2 : (atK R kErrors).l.map rdErr = er := by
    unfold atK
    rw [hF, gk_ne _ _ (by decide), gk_ie]
    by_cases h : er = []
    · rw [if_neg (by simp [h]), gk_ie, if_neg (by rintro ⟨_, q⟩; revert q; decide), gk_ne _ _ (by decide), h]
      rfl
    · rw [if_pos ⟨h, rfl⟩]
      exact errs_back hE
  have k3 : (atK R kPending).l.map rdPen = pe := by
    unfold atK
    rw [hF, gk_ne _ _ (by decide), gk_ie, if_neg (by rintro ⟨_, q⟩; revert q; decide), gk_ie]
    by_cases h : pe = []
    · rw [if_neg (by simp [h]), gk_ne _ _ (by decide), h]
      rfl
    · rw [if_pos ⟨h, rfl⟩]
      exact pens_back hP
  have k4 : atK R kNext = flagJ mo := by
    unfold atK
    rw [hF, gk_ne _ _ (by decide), gk_ie, if_neg (by rintro ⟨_, q⟩; revert q; decide), gk_ie, if_neg (by rintro ⟨_, q⟩; revert q; decide), gk_eq]
    rfl
  have k5 : decide ((flagJ mo).n = 1) = mo := by cases mo <;> rfl
  have k6 : atK R kData = d := by unfold atK; rw [k1]; rfl
  unfold readP
  rw [k1, k2, k3, k4, k5, k6]
  rfl

theorem read_rec (d : JV) (er : List PErr) (pe : List PPen) (id : Int) (st : Bool) (od : List (List UInt8)) (en mo : Bool) (hE : ∀ e ∈ er, pathR e.path = true) (hP : ∀ x ∈ pe, x.okB = true) (h0 : 0 ≤ id) (h1 : id ≤ 9007199254740991) (hs : st = true → od = []) :
    readP (payR ⟨false, d, er, pe, true, id, st, od, en, false, mo⟩) = ⟨false, d, er, pe, true, id, st, od, en, false, mo⟩ := by
  have hid := id_back h0 h1
  obtain ⟨r, hr⟩ : ∃ r, recR ⟨false, d, er, pe, true, id, st, od, en, false, mo⟩ = r := ⟨_, rfl⟩
  obtain ⟨z, hz⟩ : ∃ z, endR ⟨false, d, er, pe, true, id, st, od, en, false, mo⟩ = z := ⟨_, rfl⟩
  have hF : (payR ⟨false, d, er, pe, true, id, st, od, en, false, mo⟩).f = (if pe = [] then [] else [(kPending, lstJ (pe.map penR))]) ++ ((kInc, lstJ [r]) :: ((if en = true then [(kComp, lstJ [z])] else []) ++ [(kNext, flagJ mo)])) := by
    simp [payR, f1R, f2R, f3R, f4R, JV.f, hr, hz]
  have hr' : r.f = (kId, idJ id) :: ((if st = true then [(kItems, lstJ [d])] else [(kData, d), (kOrder, lstJ (od.map strJ))]) ++ ((if er = [] then [] else [(kErrors, errsR er)]) ++ [])) := by
    rw [← hr]; simp [recR, g1R, JV.f]
  have hz' : z.f = [(kId, idJ id)] := by rw [← hz]; simp [endR, JV.f]
  generalize payR ⟨false, d, er, pe, true, id, st, od, en, false, mo⟩ = R at *
  have k1 : getK R.f kData = none := by
    rw [hF, gk_ie, if_neg (by rintro ⟨_, q⟩; revert q; decide), gk_ne _ _ (by decide), gk_if, if_neg (by rintro ⟨_, q⟩; revert q; decide), gk_ne _ _ (by decide)]; rfl
  have k3 : (atK R kPending).l.map rdPen = pe := by
    unfold atK
    rw [hF, gk_ie]
    by_cases h : pe = []
    · rw [if_neg (by simp [h]), gk_ne _ _ (by decide), gk_if, if_neg (by rintro ⟨_, q⟩; revert q; decide), gk_ne _ _ (by decide), h]
      rfl
    · rw [if_pos ⟨h, rfl⟩]
      exact pens_back hP
  have k4 : atK R kNext = flagJ mo := by
    unfold atK
    rw [hF, gk_ie, if_neg (by rintro ⟨_, q⟩; revert q; decide), gk_ne _ _ (by decide), gk_if, if_neg (by rintro ⟨_, q⟩; revert q; decide), gk_eq]
    rfl
  have k5 : decide ((flagJ mo).n = 1) = mo := by cases mo <;> rfl
  have k6 : getK R.f kInc = some (lstJ [r]) := by
    rw [hF, gk_ie, if_neg (by rintro ⟨_, q⟩; revert q; decide), gk_eq]
  have k7 : getK R.f kComp = if en = true then some (lstJ [z]) else none := by
    rw [hF, gk_ie, if_neg (by rintro ⟨_, q⟩; revert q; decide), gk_ne _ _ (by decide), gk_if]
    cases en with
    | true => rw [if_pos ⟨rfl, rfl⟩, if_pos rfl]
    | false => rw [if_neg (by simp), gk_ne _ _ (by decide)]; rfl
  have k8 : oneJ (atK R kInc) = r := by unfold atK; rw [k6]; rfl
  have m1 : idOf (atK r kId) = id := by unfold atK; rw [hr', gk_eq]; exact hid
  have m2 : (atK r kErrors).l.map rdErr = er := by
    have e0 : ∀ t, getK ((if st = true then [(kItems, lstJ [d])] else [(kData, d), (kOrder, lstJ (od.map strJ))]) ++ t) kErrors = getK t kErrors := by
      intro t
      cases st with
      | true => exact gk_ne _ _ (by decide)
      | false => exact (gk_ne _ _ (by decide)).trans (gk_ne _ _ (by decide))
    unfold atK
    rw [hr', gk_ne _ _ (by decide), e0, gk_ie]
    by_cases h : er = []
    · rw [if_neg (by simp [h]), h]; rfl
    · rw [if_pos ⟨h, rfl⟩]; exact errs_back hE
  have m4 : (getK R.f kComp).isSome = en := by rw [k7]; cases en <;> rfl
  have m5 : (en && (getK (oneJ (atK R kComp)).f kErrors).isSome) = false := by
    cases en with
    | false => rfl
    | true =>
      have : oneJ (atK R kComp) = z := by unfold atK; rw [k7]; rfl
      rw [this, hz', gk_ne _ _ (by decide)]; rfl
  unfold readP
  simp only [k1, k3, k4, k5, k6, k8, m1, m2, m4, m5, Option.isSome_none, Option.isSome_some, Bool.false_eq_true, if_false, if_true, Bool.true_and]
  cases st with
  | true =>
    have hod := hs rfl
    subst hod
    have m3 : getK r.f kItems = some (lstJ [d]) := by rw [hr', gk_ne _ _ (by decide)]; exact gk_eq _ _ _
    have m6 : (atK r kOrder).l.map JV.s = [] := by
      unfold atK
      rw [hr', gk_ne _ _ (by decide)]
      have : getK ((if true = true then [(kItems, lstJ [d])] else [(kData, d), (kOrder, lstJ (([] : List (List UInt8)).map strJ))]) ++ ((if er = [] then [] else [(kErrors, errsR er)]) ++ [])) kOrder = none := by
        rw [if_pos rfl]
        simp only [List.cons_append, List.nil_append]
        rw [gk_ne _ _ (by decide), gk_ie, if_neg (by rintro ⟨_, q⟩; revert q; decide)]; rfl
      rw [this]; rfl
    have m7 : oneJ (atK r kItems) = d := by unfold atK; rw [m3]; rfl
    simp only [m3, m6, m7, Option.isSome_some, if_true]
  | false =>
    have m3 : getK r.f kItems = none := by
      rw [hr', gk_ne _ _ (by decide)]
      simp only [Bool.false_eq_true, if_false, List.cons_append, List.nil_append]
      rw [gk_ne _ _ (by decide), gk_ne _ _ (by decide), gk_ie, if_neg (by rintro ⟨_, q⟩; revert q; decide)]; rfl
    have m6 : (atK r kOrder).l.map JV.s = od := by
      have : atK r kOrder = lstJ (od.map strJ) := by
        unfold atK
        rw [hr', gk_ne _ _ (by decide)]
        simp only [Bool.false_eq_true, if_false, List.cons_append, List.nil_append]
        rw [gk_ne _ _ (by decide), gk_eq]; rfl
      rw [this]
      exact ord_back od
    have m7 : atK r kData = d := by
      unfold atK
      rw [hr', gk_ne _ _ (by decide)]
      simp only [Bool.false_eq_true, if_false, List.cons_append, List.nil_append]
      rw [gk_eq]; rfl
    simp only [m3, m6, m7, Option.isSome_none, Bool.false_eq_true, if_false]

theorem read_end (er : List PErr) (id : Int) (mo : Bool) (hE : ∀ e ∈ er, pathR e.path = true) (h0 : 0 ≤ id) (h1 : id ≤ 9007199254740991) :
    readP (payR ⟨false, jNull, er, [], false, id, false, [], true, true, mo⟩) = ⟨false, jNull, er, [], false, id, false, [], true, true, mo⟩ := by
  have hid := id_back h0 h1
  obtain ⟨z, hz⟩ : ∃ z, endR ⟨false, jNull, er, [], false, id, false, [], true, true, mo⟩ = z := ⟨_, rfl⟩
  have hF : (payR ⟨false, jNull, er, [], false, id, false, [], true, true, mo⟩).f = [(kComp, lstJ [z]), (kNext, flagJ mo)] := by
    simp [payR, f1R, f2R, f3R, f4R, JV.f, hz]
  have hz' : z.f = [(kId, idJ id), (kErrors, errsR er)] := by rw [← hz]; simp [endR, JV.f]
  generalize payR ⟨false, jNull, er, [], false, id, false, [], true, true, mo⟩ = R at *
  have k1 : getK R.f kData = none := by rw [hF, gk_ne _ _ (by decide), gk_ne _ _ (by decide)]; rfl
  have k3 : (atK R kPending).l.map rdPen = [] := by unfold atK; rw [hF, gk_ne _ _ (by decide), gk_ne _ _ (by decide)]; rfl
  have k4 : atK R kNext = flagJ mo := by unfold atK; rw [hF, gk_ne _ _ (by decide), gk_eq]; rfl
  have k5 : decide ((flagJ mo).n = 1) = mo := by cases mo <;> rfl
  have k6 : getK R.f kInc = none := by rw [hF, gk_ne _ _ (by decide), gk_ne _ _ (by decide)]; rfl
  have k7 : getK R.f kComp = some (lstJ [z]) := by rw [hF, gk_eq]
  have k8 : oneJ (atK R kComp) = z := by unfold atK; rw [k7]; rfl
  have m1 : idOf (atK z kId) = id := by unfold atK; rw [hz', gk_eq]; exact hid
  have m2 : (atK z kErrors).l.map rdErr = er := by unfold atK; rw [hz', gk_ne _ _ (by decide), gk_eq]; exact errs_back hE
  have m3 : (getK z.f kErrors).isSome = true := by rw [hz', gk_ne _ _ (by decide), gk_eq]; rfl
  unfold readP
  simp only [k1, k3, k4, k5, k6, k7, k8, m1, m2, m3, Option.isSome_none, Option.isSome_some, Bool.false_eq_true, if_false, if_true, Bool.true_and, Bool.false_and]

theorem tree_null {d : JV} (h : treeV d 12 = true) (hk : d.kind = 0) : d = jNull := by
  obtain ⟨k, n, s, l, f⟩ := d
  simp only [JV.kind] at hk
  subst hk
  simp only [treeV] at h
  split at h
  · cases h
  · rename_i hc
    simp only [not_or, Bool.not_eq_false] at hc
    have hu := hc.2
    simp [unusedV] at hu
    obtain ⟨⟨⟨rfl, rfl⟩, rfl⟩, rfl⟩ := hu
    rfl

theorem read_back {p : Pay} (h : rightB p = true) : readP (payJ p) = p := by
  rw [right_payR h]
  rw [right_R] at h
  unfold rightR at h
  simp only [Bool.and_eq_true, decide_eq_true_eq] at h
  obtain ⟨⟨⟨⟨⟨⟨hi, ht⟩, hT⟩, _⟩, hE⟩, hP⟩, _⟩ := h
  have e1 : ∀ e ∈ p.errs, pathR e.path = true := fun e he => by
    have := List.all_eq_true.1 hE e he
    simp only [PErr.okB, Bool.and_eq_true] at this
    exact this.2
  have e2 : ∀ x ∈ p.pend, x.okB = true := fun x hx => List.all_eq_true.1 hP x hx
  obtain ⟨fi, d, er, pe, rc, id, st, od, en, fa, mo⟩ := p
  simp only at hi ht e1 e2
  unfold togB at hT
  simp only at hT
  cases fi with
  | true =>
    simp only [if_true, Bool.and_eq_true, decide_eq_true_eq, Bool.not_eq_true'] at hT
    obtain ⟨⟨⟨⟨⟨rfl, rfl⟩, rfl⟩, rfl⟩, rfl⟩, rfl⟩ := hT
    exact read_first d er pe mo e1 e2
  | false =>
    simp only [Bool.false_eq_true, if_false] at hT
    cases rc with
    | true =>
      simp only [if_true, Bool.and_eq_true, decide_eq_true_eq, Bool.not_eq_true', Bool.or_eq_true] at hT
      obtain ⟨⟨rfl, _⟩, h3⟩ := hT
      refine read_rec d er pe id st od en mo e1 e2 hi.1 hi.2 (fun q => ?_)
      rcases h3 with h3 | h3
      · rw [q] at h3; cases h3
      · exact h3
    | false =>
      simp only [Bool.false_eq_true, if_false, Bool.and_eq_true, decide_eq_true_eq, Bool.not_eq_true'] at hT
      obtain ⟨⟨⟨⟨⟨rfl, rfl⟩, rfl⟩, rfl⟩, rfl⟩, hk⟩ := hT
      have := tree_null ht hk
      subst this
      exact read_end er id mo e1 hi.1 hi.2

/-! ### Texts of its lengths -/
theorem shVs_of : ∀ {l : List JV}, (∀ v ∈ l, v.sh) → shVs l
  | [], _ => trivial
  | v :: l, h => ⟨h v (by simp), shVs_of fun w hw => h w (by simp [hw])⟩
theorem shPs_of : ∀ {l : List (List UInt8 × JV)}, (∀ p ∈ l, p.2.sh) → shPs l
  | [], _ => trivial
  | p :: l, h => ⟨h p (by simp), shPs_of fun w hw => h w (by simp [hw])⟩
theorem sh_lst {l : List JV} (h : ∀ v ∈ l, v.sh) : (lstJ l).sh := ⟨by simp, shVs_of h, trivial⟩
theorem sh_obj {k n : Int} {f : List (List UInt8 × JV)} (h : ∀ p ∈ f, p.2.sh) : (JV.mk k n [] [] f).sh := ⟨by simp, trivial, shPs_of h⟩
theorem sh_str {b : List UInt8} (h : b.length ≤ 281474976710656) : (strJ b).sh := ⟨h, trivial, trivial⟩
theorem sh_id {n : Int} (h0 : -9223372036854775808 ≤ n) (h1 : n ≤ 9223372036854775807) : (idJ n).sh := ⟨by have := itoa_len n h0 h1; omega, trivial, trivial⟩
theorem sh_path {l : List PStep} (h : ∀ x ∈ l, x.key.length ≤ 281474976710656) : (pathJ l).sh := sh_lst fun v hv => by
  obtain ⟨x, hx, rfl⟩ := List.mem_map.1 hv
  have hk := h x hx
  obtain ⟨k, a, i⟩ := x
  cases i
  · exact ⟨hk, trivial, trivial⟩
  · exact ⟨by simp, trivial, trivial⟩
/-- Of few texts, that are short. -/
structure Pay.brief (p : Pay) : Prop where
  data : p.data.sh
  errs : ∀ e ∈ p.errs, ∀ x ∈ e.path, x.key.length ≤ 281474976710656
  pend : ∀ e ∈ p.pend, (∀ x ∈ e.path, x.key.length ≤ 281474976710656) ∧ e.label.length ≤ 281474976710656
  order : ∀ x ∈ p.order, x.length ≤ 281474976710656
theorem sh_errs {l : List PErr} (h : ∀ e ∈ l, ∀ x ∈ e.path, x.key.length ≤ 281474976710656) : (errsR l).sh := sh_lst fun v hv => by
  obtain ⟨x, hx, rfl⟩ := List.mem_map.1 hv
  refine sh_obj fun p hp => ?_
  simp only [List.mem_cons, List.not_mem_nil, or_false] at hp
  rcases hp with rfl | rfl
  · exact ⟨by simp, trivial, trivial⟩
  · exact sh_path (h x hx)
theorem sh_pens {l : List PPen} (hl : ∀ e ∈ l, e.lim) (h : ∀ e ∈ l, (∀ x ∈ e.path, x.key.length ≤ 281474976710656) ∧ e.label.length ≤ 281474976710656) : (lstJ (l.map penR)).sh := sh_lst fun v hv => by
  obtain ⟨x, hx, rfl⟩ := List.mem_map.1 hv
  have h0 := (hl x hx).1
  obtain ⟨h1, h2⟩ := h x hx
  refine sh_obj fun p hp => ?_
  simp only [List.mem_append, List.mem_cons, List.not_mem_nil, or_false] at hp
  rcases hp with (rfl | rfl) | hp
  · exact sh_id h0.1 h0.2
  · exact sh_path h1
  · split at hp
    · simp only [List.mem_cons, List.not_mem_nil, or_false] at hp
      subst hp
      exact sh_str h2
    · cases hp
theorem sh_payR {p : Pay} (hl : p.lim) (h : p.brief) : (payR p).sh := by
  have hE := sh_errs h.errs
  have hP := sh_pens hl.pend.2 h.pend
  have hI := sh_id hl.id.1 hl.id.2
  have hO : (lstJ (p.order.map strJ)).sh := sh_lst fun v hv => by
    obtain ⟨x, hx, rfl⟩ := List.mem_map.1 hv
    exact sh_str (h.order x hx)
  have one : ∀ v : JV, v.sh → (lstJ [v]).sh := fun v hv => sh_lst fun w hw => by simp at hw; subst hw; exact hv
  have hR : (recR p).sh := by
    refine sh_obj fun q hq => ?_
    rcases List.mem_append.1 hq with hq | hq
    · unfold g1R at hq
      rcases List.mem_cons.1 hq with rfl | hq
      · exact hI
      · split at hq
        · simp only [List.mem_cons, List.not_mem_nil, or_false] at hq; subst hq; exact one _ h.data
        · simp only [List.mem_cons, List.not_mem_nil, or_false] at hq
          rcases hq with rfl | rfl
          · exact h.data
          · exact hO
    · split at hq
      · cases hq
      · simp only [List.mem_cons, List.not_mem_nil, or_false] at hq; subst hq; exact hE
  have hZ : (endR p).sh := by
    refine sh_obj fun q hq => ?_
    rcases List.mem_cons.1 hq with rfl | hq
    · exact hI
    · split at hq
      · simp only [List.mem_cons, List.not_mem_nil, or_false] at hq; subst hq; exact hE
      · cases hq
  refine sh_obj fun q hq => ?_
  simp only [List.mem_append, List.mem_cons, List.not_mem_nil, or_false] at hq
  rcases hq with (((hq | hq) | hq) | hq) | rfl
  · unfold f1R at hq
    split at hq
    · rcases List.mem_cons.1 hq with rfl | hq
      · exact h.data
      · split at hq
        · cases hq
        · simp only [List.mem_cons, List.not_mem_nil, or_false] at hq; subst hq; exact hE
    · cases hq
  · unfold f2R at hq
    split at hq
    · cases hq
    · simp only [List.mem_cons, List.not_mem_nil, or_false] at hq; subst hq; exact hP
  · unfold f3R at hq
    split at hq
    · simp only [List.mem_cons, List.not_mem_nil, or_false] at hq; subst hq; exact one _ hR
    · cases hq
  · unfold f4R at hq
    split at hq
    · simp only [List.mem_cons, List.not_mem_nil, or_false] at hq; subst hq; exact one _ hZ
    · cases hq
  · exact ⟨by simp, trivial, trivial⟩

/-! ### Few -/
def fewS (l : List PStep) : Bool := decide (l.length ≤ 40) && l.all fun x => decide (x.key.length ≤ 200)
theorem fsLoop (s : St) (L : List PStep) :
    ∀ (m i : Nat) (env : Env), 50 - i = m → i ≤ 50 → i ≤ L.length → env 0 = .sl .no (pSs L) → env 3 = .int .i64 i →
      Out (evC G (.loop false af85l0) env s) (fun e env' s' => s' = s ∧ ((((L.drop i).take (50 - i)).all (fun x => decide (x.key.length ≤ 200)) = true ∧ e = .exit 0 ∧ env' 0 = .sl .no (pSs L)) ∨ (((L.drop i).take (50 - i)).all (fun x => decide (x.key.length ≤ 200)) = false ∧ e = .ret ∧ env' 2 = .bool false))) := by
  intro m
  induction m with
  | zero =>
    intro i env hm hi hl g0 g3
    have : i = 50 := by omega
    subst this
    refine Out_loop G false _ _ af85l0.eq_1 _ _ _ ?_
    by_cases hlt : (50 : Int) < L.length
    · simp [g0, g3, pSs_length, hlt]
    · simp [g0, g3, pSs_length, hlt]
  | succ m ihm =>
    intro i env hm hi hl g0 g3
    have hi40 : (i : Int) < 50 := by omega
    by_cases hlt : i < L.length
    · have hdr := List.drop_eq_getElem_cons hlt
      have hwi : IntKind.i64.wrap ((i : Int) + 1) = ((i + 1 : Nat) : Int) := by rw [wrap_in (by omega) (by omega)]; omega
      have hget : (pSs L)[((i : Nat) : Int).toNat]? = some (pS L[i]) := by rw [Int.toNat_natCast, pSs_get, List.getElem?_eq_getElem hlt]; rfl
      have hnx := fun env => ihm (i + 1) env (by omega) (by omega) (by omega)
      have e40 : 50 - i = (50 - (i + 1)) + 1 := by omega
      rw [hdr, e40, List.take_succ_cons, List.all_cons]
      generalize ((L.drop (i + 1)).take (50 - (i + 1))).all (fun x => decide (x.key.length ≤ 200)) = tl at *
      generalize L[i] = p at *
      obtain ⟨k, a, x⟩ := p
      simp only [pS] at hget
      refine Out_loop G false _ _ af85l0.eq_1 _ _ _ ?_
      by_cases h : (200 : Int) < k.length
      · have h' : ¬ k.length ≤ 200 := by omega
        have h2 : 200 < k.length := by omega
        simp [g0, g3, pSs_length, hlt, hi40, ↓hget, h, h', h2]
      · have h' : k.length ≤ 200 := by omega
        have h2 : ¬ 200 < k.length := by omega
        simp [g0, g3, pSs_length, hlt, hi40, ↓hget, h, h', h2, hwi]
        exact hnx _ (by simp [g0]) (by simp)
    · have : i = L.length := by omega
      refine Out_loop G false _ _ af85l0.eq_1 _ _ _ ?_
      rw [List.drop_eq_nil_of_le (by omega)]
      simp [g0, g3, pSs_length, hlt]

theorem fewS_spec (l : List PStep) (s : St) : call G 85 [.sl .no (pSs l)] s = some (.bool (fewS l), s) := by
  refine call_out (F := af85) rfl rfl ?_
  simp [af85, af85b]
  refine Out.mono (fsLoop s l 50 0 _ (by omega) (by omega) (by omega) (by simp) (by simp)) ?_
  rintro e env s' ⟨rfl, ⟨h1, rfl, g0⟩ | ⟨h1, rfl, g2⟩⟩
  · simp only [List.drop_zero, Nat.sub_zero] at h1
    by_cases e : l.length ≤ 40
    · have e' : (l.length : Int) ≤ 40 := by omega
      rw [List.take_of_length_le (by omega)] at h1
      simp only [fewS, h1]
      simp [g0, pSs_length, e, e']
    · have e' : ¬ (l.length : Int) ≤ 40 := by omega
      simp [g0, pSs_length, e, e', fewS]
  · simp only [List.drop_zero, Nat.sub_zero] at h1
    have : fewS l = false := by
      cases hp : fewS l with
      | false => rfl
      | true =>
        simp only [fewS, Bool.and_eq_true, decide_eq_true_eq] at hp
        rw [List.take_of_length_le (by omega), hp.2] at h1
        cases h1
    simp [g2, this]

def PErr.fewB (e : PErr) : Bool := fewS e.path
def PPen.fewB (x : PPen) : Bool := fewS x.path && decide (x.label.length ≤ 100)
def fewO (b : List UInt8) : Bool := decide (b.length ≤ 100)

theorem feLoop (s : St) (a : Nat) (pc : List V) (L : List PErr) (ha : s.obs[a]? = some (.cells 51 pc)) (hpc : pc[6]? = some (.sl .no (erVs L))) :
    ∀ (m i : Nat) (env : Env), 12 - i = m → i ≤ 12 → i ≤ L.length → env 1 = .ptr a 0 → env 3 = .int .i64 i →
      Out (evC G (.loop false af22l0) env s) (fun e env' s' => s' = s ∧ ((((L.drop i).take (12 - i)).all PErr.fewB = true ∧ e = .exit 0 ∧ env' 1 = .ptr a 0) ∨ (((L.drop i).take (12 - i)).all PErr.fewB = false ∧ e = .ret ∧ env' 2 = .bool false))) := by
  intro m
  induction m with
  | zero =>
    intro i env hm hi hl g1 g3
    have : i = 12 := by omega
    subst this
    refine Out_loop G false _ _ af22l0.eq_1 _ _ _ ?_
    by_cases hlt : (12 : Int) < L.length
    · simp [g1, g3, ha, hpc, erVs_length, hlt]
    · simp [g1, g3, ha, hpc, erVs_length, hlt]
  | succ m ihm =>
    intro i env hm hi hl g1 g3
    have hi40 : (i : Int) < 12 := by omega
    by_cases hlt : i < L.length
    · have hdr := List.drop_eq_getElem_cons hlt
      have hwi : IntKind.i64.wrap ((i : Int) + 1) = ((i + 1 : Nat) : Int) := by rw [wrap_in (by omega) (by omega)]; omega
      have hget : (erVs L)[((i : Nat) : Int).toNat]? = (some L[i]).map erV := by rw [Int.toNat_natCast, erVs_get, List.getElem?_eq_getElem hlt]
      have hmem := List.getElem_mem hlt
      have hnx := fun env => ihm (i + 1) env (by omega) (by omega) (by omega)
      have e40 : 12 - i = (12 - (i + 1)) + 1 := by omega
      rw [hdr, e40, List.take_succ_cons, List.all_cons]
      generalize ((L.drop (i + 1)).take (12 - (i + 1))).all PErr.fewB = tl at *
      have hf := fun s => fewS_spec L[i].path s
      have hB : L[i].fewB = fewS L[i].path := rfl
      rw [hB]
      generalize fewS L[i].path = bf at *
      generalize L[i] = p at *
      obtain ⟨pa, ec⟩ := p
      simp only [erV, Option.map_some] at hget hf
      refine Out_loop G false _ _ af22l0.eq_1 _ _ _ ?_
      cases bf with
      | false => simp [g1, g3, ha, hpc, erVs_length, hlt, hi40, ↓hget, hf]
      | true =>
        simp [g1, g3, ha, hpc, erVs_length, hlt, hi40, ↓hget, hf, hwi]
        exact hnx _ (by simp [g1]) (by simp)
    · have : i = L.length := by omega
      refine Out_loop G false _ _ af22l0.eq_1 _ _ _ ?_
      rw [List.drop_eq_nil_of_le (by omega)]
      simp [g1, g3, ha, hpc, erVs_length, hlt]

theorem fnLoop (s : St) (a : Nat) (pc : List V) (L : List PPen) (ha : s.obs[a]? = some (.cells 51 pc)) (hpc : pc[7]? = some (.sl .no (pnVs L))) :
    ∀ (m i : Nat) (env : Env), 12 - i = m → i ≤ 12 → i ≤ L.length → env 1 = .ptr a 0 → env 4 = .int .i64 i →
      Out (evC G (.loop false af22l1) env s) (fun e env' s' => s' = s ∧ ((((L.drop i).take (12 - i)).all PPen.fewB = true ∧ e = .exit 2 ∧ env' 1 = .ptr a 0) ∨ (((L.drop i).take (12 - i)).all PPen.fewB = false ∧ e = .ret ∧ env' 2 = .bool false))) := by
  intro m
  induction m with
  | zero =>
    intro i env hm hi hl g1 g3
    have : i = 12 := by omega
    subst this
    refine Out_loop G false _ _ af22l1.eq_1 _ _ _ ?_
    by_cases hlt : (12 : Int) < L.length
    · simp [g1, g3, ha, hpc, pnVs_length, hlt]
    · simp [g1, g3, ha, hpc, pnVs_length, hlt]
  | succ m ihm =>
    intro i env hm hi hl g1 g3
    have hi40 : (i : Int) < 12 := by omega
    by_cases hlt : i < L.length
    · have hdr := List.drop_eq_getElem_cons hlt
      have hwi : IntKind.i64.wrap ((i : Int) + 1) = ((i + 1 : Nat) : Int) := by rw [wrap_in (by omega) (by omega)]; omega
      have hget : (pnVs L)[((i : Nat) : Int).toNat]? = (some L[i]).map pnV := by rw [Int.toNat_natCast, pnVs_get, List.getElem?_eq_getElem hlt]
      have hmem := List.getElem_mem hlt
      have hnx := fun env => ihm (i + 1) env (by omega) (by omega) (by omega)
      have e40 : 12 - i = (12 - (i + 1)) + 1 := by omega
      rw [hdr, e40, List.take_succ_cons, List.all_cons]
      generalize ((L.drop (i + 1)).take (12 - (i + 1))).all PPen.fewB = tl at *
      have hf := fun s => fewS_spec L[i].path s
      have hB : L[i].fewB = (fewS L[i].path && decide (L[i].label.length ≤ 100)) := rfl
      rw [hB]
      generalize fewS L[i].path = bf at *
      generalize L[i] = p at *
      obtain ⟨pid, pa, la, na⟩ := p
      simp only [pnV, Option.map_some] at hget hf
      refine Out_loop G false _ _ af22l1.eq_1 _ _ _ ?_
      cases bf with
      | false => simp [g1, g3, ha, hpc, pnVs_length, hlt, hi40, ↓hget, hf]
      | true =>
        by_cases h : (100 : Int) < la.length
        · have h' : ¬ la.length ≤ 100 := by omega
          have h2 : 100 < la.length := by omega
          simp [g1, g3, ha, hpc, pnVs_length, hlt, hi40, ↓hget, hf, h, h', h2]
        · have h' : la.length ≤ 100 := by omega
          have h2 : ¬ 100 < la.length := by omega
          simp [g1, g3, ha, hpc, pnVs_length, hlt, hi40, ↓hget, hf, h, h', h2, hwi]
          exact hnx _ (by simp [g1]) (by simp)
    · have : i = L.length := by omega
      refine Out_loop G false _ _ af22l1.eq_1 _ _ _ ?_
      rw [List.drop_eq_nil_of_le (by omega)]
      simp [g1, g3, ha, hpc, pnVs_length, hlt]

theorem foLoop (s : St) (a : Nat) (pc : List V) (L : List (List UInt8)) (ha : s.obs[a]? = some (.cells 51 pc)) (hpc : pc[11]? = some (.sl .no (sgVs L))) :
    ∀ (m i : Nat) (env : Env), 40 - i = m → i ≤ 40 → i ≤ L.length → env 1 = .ptr a 0 → env 5 = .int .i64 i →
      Out (evC G (.loop false af22l2) env s) (fun e env' s' => s' = s ∧ ((((L.drop i).take (40 - i)).all fewO = true ∧ e = .exit 4 ∧ env' 1 = .ptr a 0) ∨ (((L.drop i).take (40 - i)).all fewO = false ∧ e = .ret ∧ env' 2 = .bool false))) := by
  intro m
  induction m with
  | zero =>
    intro i env hm hi hl g1 g3
    have : i = 40 := by omega
    subst this
    refine Out_loop G false _ _ af22l2.eq_1 _ _ _ ?_
    by_cases hlt : (40 : Int) < L.length
    · simp [g1, g3, ha, hpc, sgVs_length, hlt]
    · simp [g1, g3, ha, hpc, sgVs_length, hlt]
  | succ m ihm =>
    intro i env hm hi hl g1 g3
    have hi40 : (i : Int) < 40 := by omega
    by_cases hlt : i < L.length
    · have hdr := List.drop_eq_getElem_cons hlt
      have hwi : IntKind.i64.wrap ((i : Int) + 1) = ((i + 1 : Nat) : Int) := by rw [wrap_in (by omega) (by omega)]; omega
      have hget : (sgVs L)[((i : Nat) : Int).toNat]? = (some L[i]).map V.str := by rw [Int.toNat_natCast, sgVs_get, List.getElem?_eq_getElem hlt]
      have hmem := List.getElem_mem hlt
      have hnx := fun env => ihm (i + 1) env (by omega) (by omega) (by omega)
      have e40 : 40 - i = (40 - (i + 1)) + 1 := by omega
      rw [hdr, e40, List.take_succ_cons, List.all_cons]
      generalize ((L.drop (i + 1)).take (40 - (i + 1))).all fewO = tl at *
      have hB : fewO L[i] = decide (L[i].length ≤ 100) := rfl
      rw [hB]
      generalize L[i] = p at *
      simp only [Option.map_some] at hget
      refine Out_loop G false _ _ af22l2.eq_1 _ _ _ ?_
      by_cases h : (100 : Int) < p.length
      · have h' : ¬ p.length ≤ 100 := by omega
        have h2 : 100 < p.length := by omega
        simp [g1, g3, ha, hpc, sgVs_length, hlt, hi40, ↓hget, h, h', h2]
      · have h' : p.length ≤ 100 := by omega
        have h2 : ¬ 100 < p.length := by omega
        simp [g1, g3, ha, hpc, sgVs_length, hlt, hi40, ↓hget, h, h', h2, hwi]
        exact hnx _ (by simp [g1]) (by simp)
    · have : i = L.length := by omega
      refine Out_loop G false _ _ af22l2.eq_1 _ _ _ ?_
      rw [List.drop_eq_nil_of_le (by omega)]
      simp [g1, g3, ha, hpc, sgVs_length, hlt]

def fewP (p : Pay) : Bool := (decide (p.errs.length ≤ 8) && p.errs.all PErr.fewB) && (decide (p.pend.length ≤ 8) && p.pend.all PPen.fewB) && (decide (p.order.length ≤ 30) && p.order.all fewO) && decide (0 ≤ fewV p.data 60)
theorem few_short {α : Type} {f : α → Bool} {n k : Nat} (hk : k ≤ n) (l : List α) : (decide (l.length ≤ k) && l.all f) = (decide (l.length ≤ k) && (l.take n).all f) := by
  by_cases h : l.length ≤ k
  · rw [List.take_of_length_le (by omega)]
  · simp [h]
theorem fewP_spec (p : Pay) (hok : p.data.ok) (s : St) : call G 22 [payV p] s = some (.bool (fewP p), s) := by
  have hd := fun s => fewN_spec p.data hok 60 (by omega) (by omega) s
  unfold fewP
  rw [few_short (n := 12) (by omega) p.errs, few_short (n := 12) (by omega) p.pend, few_short (n := 40) (by omega) p.order]
  generalize decide (0 ≤ fewV p.data 60) = bd at *
  clear hok
  obtain ⟨fi, ⟨k, nn, b, l, f⟩, er, pe, rc, id, st, od, en, fa, mo⟩ := p
  simp only [toV, vc] at hd ⊢
  refine call_out (F := af22) rfl rfl ?_
  simp [af22, af22b, payC, vc]
  obtain ⟨S, hS⟩ : ∃ S : St, S = ⟨s.obs ++ [.cells 51 [.bool fi, .int .i64 k, .int .i64 nn, .str b, .sl .no (toVs l), .sl .no (toPs f), .sl .no (erVs er), .sl .no (pnVs pe), .bool rc, .int .i64 id, .bool st, .sl .no (sgVs od), .bool en, .bool fa, .bool mo]], s.bufs⟩ := ⟨_, rfl⟩
  have hSa : S.obs[s.obs.length]? = some (.cells 51 [.bool fi, .int .i64 k, .int .i64 nn, .str b, .sl .no (toVs l), .sl .no (toPs f), .sl .no (erVs er), .sl .no (pnVs pe), .bool rc, .int .i64 id, .bool st, .sl .no (sgVs od), .bool en, .bool fa, .bool mo]) := by rw [hS]; simp
  have hSt : S.obs.take s.obs.length = s.obs := by rw [hS]; simp
  have hSb : S.bufs = s.bufs := by rw [hS]
  rw [← hS]
  refine Out.mono (feLoop S s.obs.length [.bool fi, .int .i64 k, .int .i64 nn, .str b, .sl .no (toVs l), .sl .no (toPs f), .sl .no (erVs er), .sl .no (pnVs pe), .bool rc, .int .i64 id, .bool st, .sl .no (sgVs od), .bool en, .bool fa, .bool mo] er hSa rfl 12 0 _ (by omega) (by omega) (by omega) (by simp) (by simp)) ?_
  rintro e env s1 ⟨rfl, ⟨q, rfl, q1⟩ | ⟨q, rfl, q1⟩⟩
  · simp only [List.drop_zero, Nat.sub_zero] at q
    rw [q]
    simp
    refine Out.mono (fnLoop _ s.obs.length [.bool fi, .int .i64 k, .int .i64 nn, .str b, .sl .no (toVs l), .sl .no (toPs f), .sl .no (erVs er), .sl .no (pnVs pe), .bool rc, .int .i64 id, .bool st, .sl .no (sgVs od), .bool en, .bool fa, .bool mo] pe hSa rfl 12 0 _ (by omega) (by omega) (by omega) (by simp [q1]) (by simp)) ?_
    rintro e env s1 ⟨rfl, ⟨q, rfl, q1⟩ | ⟨q, rfl, q1⟩⟩
    · simp only [List.drop_zero, Nat.sub_zero] at q
      rw [q]
      simp
      refine Out.mono (foLoop _ s.obs.length [.bool fi, .int .i64 k, .int .i64 nn, .str b, .sl .no (toVs l), .sl .no (toPs f), .sl .no (erVs er), .sl .no (pnVs pe), .bool rc, .int .i64 id, .bool st, .sl .no (sgVs od), .bool en, .bool fa, .bool mo] od hSa rfl 40 0 _ (by omega) (by omega) (by omega) (by simp [q1]) (by simp)) ?_
      rintro e env s1 ⟨rfl, ⟨q, rfl, q1⟩ | ⟨q, rfl, q1⟩⟩
      · simp only [List.drop_zero, Nat.sub_zero] at q
        rw [q]
        by_cases a1 : er.length ≤ 8
        · have a1' : (er.length : Int) ≤ 8 := by omega
          by_cases a2 : pe.length ≤ 8
          · have a2' : (pe.length : Int) ≤ 8 := by omega
            by_cases a3 : od.length ≤ 30
            · have a3' : (od.length : Int) ≤ 30 := by omega
              simp [q1, hSa, a1, a1', a2, a2', a3, a3', erVs_length, pnVs_length, sgVs_length, hd, hSt, hSb]
            · have a3' : ¬ (od.length : Int) ≤ 30 := by omega
              simp [q1, hSa, a1, a1', a2, a2', a3, a3', erVs_length, pnVs_length, sgVs_length, hSt, hSb]
          · have a2' : ¬ (pe.length : Int) ≤ 8 := by omega
            simp [q1, hSa, a1, a1', a2, a2', erVs_length, pnVs_length, hSt, hSb]
        · have a1' : ¬ (er.length : Int) ≤ 8 := by omega
          simp [q1, hSa, a1, a1', erVs_length, hSt, hSb]
      · simp only [List.drop_zero, Nat.sub_zero] at q
        rw [q]
        simp [q1, hSt, hSb]
    · simp only [List.drop_zero, Nat.sub_zero] at q
      rw [q]
      simp [q1, hSt, hSb]
  · simp only [List.drop_zero, Nat.sub_zero] at q
    rw [q]
    simp [q1, hSt, hSb]

/-! ### Numbers and lengths of the reference's value -/
theorem okPs_of : ∀ {l : List (List UInt8 × JV)}, (∀ p ∈ l, p.1.length ≤ 100 ∧ p.2.fine) → okPs l ∧ limPs l
  | [], _ => ⟨trivial, trivial⟩
  | p :: l, h => by
    obtain ⟨i1, i2⟩ := okPs_of (l := l) fun q hq => h q (by simp [hq])
    obtain ⟨h1, h2⟩ := h p (by simp)
    exact ⟨⟨by omega, h2.1, i1⟩, ⟨h2.2, i2⟩⟩
theorem fine_ob {f : List (List UInt8 × JV)} (hl : f.length ≤ 100) (h : ∀ p ∈ f, p.1.length ≤ 100 ∧ p.2.fine) : (JV.mk 5 0 [] [] f).fine := by
  obtain ⟨i1, i2⟩ := okPs_of h
  exact ⟨⟨⟨by omega, by omega⟩, ⟨by omega, by omega⟩, by simp, by simp, by omega, trivial, i1⟩, ⟨by simp, by omega, trivial, i2⟩⟩
theorem fine_errsR {l : List PErr} (hl : l.length ≤ 1000000000 ∧ ∀ e ∈ l, e.lim) (hn : ∀ e ∈ l, e.num) : (errsR l).fine := fine_lst (by simpa using hl.1) fun v hv => by
  obtain ⟨x, hx, rfl⟩ := List.mem_map.1 hv
  refine fine_ob (by simp) fun p hp => ?_
  simp only [List.mem_cons, List.not_mem_nil, or_false] at hp
  rcases hp with rfl | rfl
  · exact ⟨by simp [kCode], fine_num (hn x hx).1 (hn x hx).2⟩
  · exact ⟨by simp [kPath], fine_path (hl.2 x hx).1 (hl.2 x hx).2⟩
theorem fine_pensR {l : List PPen} (hl : l.length ≤ 1000000000 ∧ ∀ e ∈ l, e.lim) : (lstJ (l.map penR)).fine := fine_lst (by simpa using hl.1) fun v hv => by
  obtain ⟨x, hx, rfl⟩ := List.mem_map.1 hv
  obtain ⟨h0, h1, h2, h3⟩ := hl.2 x hx
  refine fine_ob (by simp; split <;> simp) fun p hp => ?_
  simp only [List.mem_append, List.mem_cons, List.not_mem_nil, or_false] at hp
  rcases hp with (rfl | rfl) | hp
  · exact ⟨by simp [kId], fine_id h0.1 h0.2⟩
  · exact ⟨by simp [kPath], fine_path h1 h2⟩
  · split at hp
    · simp only [List.mem_cons, List.not_mem_nil, or_false] at hp
      subst hp
      exact ⟨by simp [kLabel], fine_str h3⟩
    · cases hp
theorem fine_payR {p : Pay} (h : p.lim) (hn : ∀ e ∈ p.errs, e.num) : (payR p).fine := by
  have hE := fine_errsR h.errs hn
  have hP := fine_pensR h.pend
  have hI := fine_id h.id.1 h.id.2
  have hD : p.data.fine := ⟨h.data.1, h.data.2⟩
  have hO : (lstJ (p.order.map strJ)).fine := fine_lst (by simpa using h.order.1) fun v hv => by
    obtain ⟨x, hx, rfl⟩ := List.mem_map.1 hv
    exact fine_str (h.order.2 x hx)
  have one : ∀ v : JV, v.fine → (lstJ [v]).fine := fun v hv => fine_lst (by simp) fun w hw => by simp at hw; subst hw; exact hv
  have hR : (recR p).fine := by
    refine fine_ob (by have := g1R_len p; rw [List.length_append]; split <;> simp <;> omega) fun q hq => ?_
    rcases List.mem_append.1 hq with hq | hq
    · unfold g1R at hq
      rcases List.mem_cons.1 hq with rfl | hq
      · exact ⟨by simp [kId], hI⟩
      · split at hq
        · simp only [List.mem_cons, List.not_mem_nil, or_false] at hq; subst hq; exact ⟨by simp [kItems], one _ hD⟩
        · simp only [List.mem_cons, List.not_mem_nil, or_false] at hq
          rcases hq with rfl | rfl
          · exact ⟨by simp [kData], hD⟩
          · exact ⟨by simp [kOrder], hO⟩
    · split at hq
      · cases hq
      · simp only [List.mem_cons, List.not_mem_nil, or_false] at hq; subst hq; exact ⟨by simp [kErrors], hE⟩
  have hZ : (endR p).fine := by
    refine fine_ob (by simp; split <;> simp) fun q hq => ?_
    rcases List.mem_cons.1 hq with rfl | hq
    · exact ⟨by simp [kId], hI⟩
    · split at hq
      · simp only [List.mem_cons, List.not_mem_nil, or_false] at hq; subst hq; exact ⟨by simp [kErrors], hE⟩
      · cases hq
  refine fine_ob (by
    have h1 := f1R_len p
    have h2 := f2R_len p
    have h3 := f3R_len p
    have h4 := f4R_len p
    simp only [List.length_append, List.length_cons, List.length_nil]
    omega) fun q hq => ?_
  simp only [List.mem_append, List.mem_cons, List.not_mem_nil, or_false] at hq
  rcases hq with (((hq | hq) | hq) | hq) | rfl
  · unfold f1R at hq
    split at hq
    · rcases List.mem_cons.1 hq with rfl | hq
      · exact ⟨by simp [kData], hD⟩
      · split at hq
        · cases hq
        · simp only [List.mem_cons, List.not_mem_nil, or_false] at hq; subst hq; exact ⟨by simp [kErrors], hE⟩
    · cases hq
  · unfold f2R at hq
    split at hq
    · cases hq
    · simp only [List.mem_cons, List.not_mem_nil, or_false] at hq; subst hq; exact ⟨by simp [kPending], hP⟩
  · unfold f3R at hq
    split at hq
    · simp only [List.mem_cons, List.not_mem_nil, or_false] at hq; subst hq; exact ⟨by simp [kInc], one _ hR⟩
    · cases hq
  · unfold f4R at hq
    split at hq
    · simp only [List.mem_cons, List.not_mem_nil, or_false] at hq; subst hq; exact ⟨by simp [kComp], one _ hZ⟩
    · cases hq
  · exact ⟨by simp [kNext], fine_flag _⟩

/-- A payload of the program's types. -/
structure Pay.ok (p : Pay) : Prop where
  data : p.data.ok
  errs : ∀ e ∈ p.errs, e.num ∧ ∀ x ∈ e.path, x.lim
  pend : ∀ e ∈ p.pend, (-9223372036854775808 ≤ e.id ∧ e.id ≤ 9223372036854775807) ∧ (∀ x ∈ e.path, x.lim) ∧ e.label.length ≤ 9223372036854775807
  order : ∀ x ∈ p.order, x.length ≤ 9223372036854775807
  id : -9223372036854775808 ≤ p.id ∧ p.id ≤ 9223372036854775807
theorem fewS_len {l : List PStep} (h : fewS l = true) : l.length ≤ 40 ∧ ∀ x ∈ l, x.key.length ≤ 200 := by
  simp only [fewS, Bool.and_eq_true, decide_eq_true_eq, List.all_eq_true] at h
  exact h
theorem few_lim {p : Pay} (hok : p.ok) (h : fewP p = true) : p.lim ∧ p.brief ∧ ∀ e ∈ p.errs, e.num := by
  simp only [fewP, Bool.and_eq_true, decide_eq_true_eq, List.all_eq_true] at h
  obtain ⟨⟨⟨⟨e1, e2⟩, ⟨n1, n2⟩⟩, ⟨o1, o2⟩⟩, hd⟩ := h
  obtain ⟨d1, d2, _⟩ := few_fine p.data 60 (by omega) hd
  have hE : ∀ e ∈ p.errs, e.path.length ≤ 40 ∧ ∀ x ∈ e.path, x.key.length ≤ 200 := fun e he => fewS_len (e2 e he)
  have hN : ∀ e ∈ p.pend, (e.path.length ≤ 40 ∧ ∀ x ∈ e.path, x.key.length ≤ 200) ∧ e.label.length ≤ 100 := fun e he => by
    have := n2 e he
    simp only [PPen.fewB, Bool.and_eq_true, decide_eq_true_eq] at this
    exact ⟨fewS_len this.1, this.2⟩
  have hO : ∀ x ∈ p.order, x.length ≤ 100 := fun x hx => by
    have := o2 x hx
    simpa [fewO] using this
  refine ⟨⟨⟨by omega, fun e he => ⟨by have := (hE e he).1; omega, (hok.errs e he).2⟩⟩, ⟨by omega, fun e he => ⟨(hok.pend e he).1, by have := (hN e he).1.1; omega, (hok.pend e he).2.1, (hok.pend e he).2.2⟩⟩, ⟨by omega, hok.order⟩, ⟨hok.data, d1⟩, hok.id⟩,
    ⟨d2, fun e he x hx => by have := (hE e he).2 x hx; omega, fun e he => ⟨fun x hx => by have := (hN e he).1.2 x hx; omega, by have := (hN e he).2; omega⟩, fun x hx => by have := hO x hx; omega⟩, fun e he => (hok.errs e he).1⟩

theorem sameP_self (p : Pay) : sameP p p = true := by
  have : sameV p.data p.data = true := (sameV_iff _ _).2 rfl
  simp [sameP, sameH, this]

theorem values_law (p : Pay) (hok : p.ok) (s : St) : call G 4 [payV p] s = some (.bool true, s) := by
  have ha := awakeC_spec
  have hf := fun s => fewP_spec p hok.data s
  refine call_out (F := af4) rfl rfl ?_
  cases hfew : fewP p with
  | false =>
    rw [hfew] at hf
    clear hok hfew
    obtain ⟨fi, ⟨k1, nn1, b1, l1, f1⟩, er, pe, rc, id, st, od, en, fa, mo⟩ := p
    simp only [payV, payC, toV, vc, List.cons_append, List.nil_append] at hf
    simp [af4, af4b, payC, vc, ha, hf]
  | true =>
    obtain ⟨hl, hb, hn⟩ := few_lim hok hfew
    have hfine := fine_payR hl hn
    have h1 := fun s => refRightP_spec p hl hfine.1 s
    have h2 := fun s => value_pay p hl hn s
    have h3 := fun s => right_pay p hl hn s
    rw [hfew] at hf
    rw [← right_R] at h1
    cases hr : rightB p with
    | false =>
      have h4 := fun s => same_spec jNull jNull jNull_ok s
      rw [(sameV_iff _ _).2 rfl] at h4
      rw [hr] at h1 h2 h3
      clear hok hfew hl hb hn hfine hr
      obtain ⟨fi, ⟨k1, nn1, b1, l1, f1⟩, er, pe, rc, id, st, od, en, fa, mo⟩ := p
      simp only [payV, payC, jNull, toV, vc, toVs, toPs, Bool.false_eq_true, if_false, List.cons_append, List.nil_append] at hf h1 h2 h3 h4
      simp [af4, af4b, payC, vc, ha, hf, h1, h2, h3, h4, fillL, evStore, putL, V.one, List.getElem?_append, List.set_append]
    | true =>
      have hR := right_payR hr
      have hs := sh_payR hl hb
      have h5 := fun s => of_spec (payJ p) (by rw [hR]; exact hfine.1) (by rw [hR]; exact hfine.2) (by rw [hR]; exact hs) s
      have ho : ofB (payJ p) = true := by
        unfold ofB
        rw [read_back hr, hr, (sameV_iff _ _).2 rfl]
        have : treeV (payJ p) 12 = true := by
          unfold rightB at hr
          simp only [Bool.and_eq_true] at hr
          exact hr.2
        rw [this]; rfl
      rw [ho, read_back hr] at h5
      have h6 := fun s => refValue_spec p hl s
      have h7 := fun s => same_spec (payJ p) (payR p) (by rw [hR]; exact hfine.1) s
      rw [(sameV_iff _ _).2 hR] at h7
      rw [← hR] at h6 h7
      have h8 := fun s => sameP_spec p p hl s
      rw [sameP_self] at h8
      rw [hr] at h1 h2 h3
      simp only [if_true] at h2 h5
      clear hok hfew hl hb hn hfine hr hR hs ho
      generalize payJ p = R at *
      obtain ⟨fi, ⟨k1, nn1, b1, l1, f1⟩, er, pe, rc, id, st, od, en, fa, mo⟩ := p
      obtain ⟨k2, nn2, b2, l2, f2⟩ := R
      simp only [payV, payC, toV, vc, List.cons_append, List.nil_append] at hf h1 h2 h3 h5 h6 h7 h8
      simp [af4, af4b, payC, vc, ha, hf, h1, h2, h3, h5, h6, h7, h8, fillL, evStore, putL, V.one, List.getElem?_append, List.set_append]

/-! ### Cells of pairs -/
def cellsP (f : List (List UInt8 × JV)) : List V := (toPs f).flatMap V.cells
theorem cellsP_nil : cellsP [] = [] := rfl
theorem cellsP_cons (p : List UInt8 × JV) (f : List (List UInt8 × JV)) : cellsP (p :: f) = (.str p.1 :: vc p.2) ++ cellsP f := by
  obtain ⟨k, v⟩ := p
  simp [cellsP, toPs]
theorem cellsP_len : ∀ f : List (List UInt8 × JV), (cellsP f).length = f.length * 6
  | [] => rfl
  | p :: f => by
    rw [cellsP_cons, List.length_append, cellsP_len f, List.length_cons, vc_length, List.length_cons]
    omega
theorem cellsP_plain : ∀ f : List (List UInt8 × JV), plainL (cellsP f) = cellsP f
  | [] => rfl
  | p :: f => by
    have happ : ∀ a b : List V, plainL (a ++ b) = plainL a ++ plainL b := by
      intro a b
      induction a with
      | nil => rfl
      | cons x a ih => simp [plainL, ih]
    rw [cellsP_cons, happ, cellsP_plain f]
    simp [plainL, V.plain, vc_plain]
theorem vc_one (v : JV) : (vc v).all V.one = true := by cases v; simp [vc, V.one]
theorem cellsP_one : ∀ f : List (List UInt8 × JV), (cellsP f).all V.one = true
  | [] => rfl
  | p :: f => by
    rw [cellsP_cons, List.all_append, cellsP_one f]
    simp [vc_one, V.one]
theorem chunk_ps : ∀ f : List (List UInt8 × JV), chunkV 6 f.length (cellsP f) = toPs f
  | [] => rfl
  | p :: f => by
    obtain ⟨k, ⟨a, b, c, d, e⟩⟩ := p
    rw [cellsP_cons]
    simp only [List.length_cons, chunkV]
    have h1 : ((V.str k :: vc (.mk a b c d e)) ++ cellsP f).take 6 = .str k :: vc (.mk a b c d e) := by simp [vc]
    have h2 : ((V.str k :: vc (.mk a b c d e)) ++ cellsP f).drop 6 = cellsP f := by simp [vc]
    rw [h1, h2, chunk_ps f]
    simp [packV, toPs, vc]
theorem rowV_ps (f : List (List UInt8 × JV)) : rowV 6 f.length (cellsP f) = some (toPs f) := by
  unfold rowV
  rw [cellsP_plain, if_pos ⟨by omega, cellsP_len f, cellsP_one f⟩, chunk_ps]
theorem cellsP_get : ∀ (f : List (List UInt8 × JV)) (k : Nat) (h : k < f.length), (cellsP f)[k * 6]? = some (.str f[k].1)
  | p :: f, 0, _ => by rw [cellsP_cons]; simp
  | p :: f, k + 1, h => by
    rw [cellsP_cons, List.getElem?_append_right (by simp [vc_length]; omega)]
    have := cellsP_get f k (by simpa using h)
    simp only [List.length_cons, vc_length, List.getElem_cons_succ]
    rw [show (k + 1) * 6 - (5 + 1) = k * 6 by omega]
    exact this
theorem putL_left (a b : List V) : ∀ (vs : List V) (off : Nat), off + vs.length ≤ a.length → putL (a ++ b) off vs = putL a off vs ++ b := by
  intro vs
  induction vs generalizing a with
  | nil => intro off _; rfl
  | cons v vs ih =>
    intro off h
    simp only [List.length_cons] at h
    simp only [putL]
    rw [List.set_append_left _ _ (by omega)]
    exact ih (a.set off v) (off + 1) (by simp; omega)
theorem putL_right (a b : List V) : ∀ (vs : List V) (off : Nat), a.length ≤ off → putL (a ++ b) off vs = a ++ putL b (off - a.length) vs := by
  intro vs
  induction vs generalizing b with
  | nil => intro off _; rfl
  | cons v vs ih =>
    intro off h
    simp only [putL]
    rw [List.set_append_right _ _ h, ih (b.set (off - a.length) v) (off + 1) (by omega)]
    rw [show off + 1 - a.length = off - a.length + 1 by omega]
theorem putL_ps : ∀ (f : List (List UInt8 × JV)) (k : Nat) (h : k < f.length) (key : List UInt8) (x : JV), putL (cellsP f) (k * 6) (.str key :: vc x) = cellsP (f.set k (key, x))
  | p :: f, 0, _, key, x => by
    obtain ⟨a, b⟩ := p
    rw [List.set_cons_zero, cellsP_cons, cellsP_cons, putL_left _ _ _ _ (by simp [vc_length])]
    obtain ⟨k1, n1, s1, l1, f1⟩ := b
    obtain ⟨k2, n2, s2, l2, f2⟩ := x
    simp [vc, putL]
  | p :: f, k + 1, h, key, x => by
    rw [List.set_cons_succ, cellsP_cons, cellsP_cons, putL_right _ _ _ _ (by simp [vc_length]; omega), ← putL_ps f k (by simpa using h)]
    congr 2
    simp only [List.length_cons, vc_length]
    omega

theorem cells_msl' (a b c d : Nat) : V.cells (.msl a b c d) = [.msl a b c d] := rfl
theorem tells_frz (r : List (Nat × Nat)) (env : Env) (s : St) (p q : Nat) (h : 4000000 ≤ q) : tells ((p, q) :: r) env s = tells r env (frzAt (env p) (q - 4000000) s) := by
  simp only [tells]
  rw [if_neg (by omega), if_neg (by omega), if_neg (by omega)]
theorem appm_ps (f : List (List UInt8 × JV)) (hf : f.length ≠ 0) (hl : f.length ≤ 1000000) (o : Own) (s : St) :
    evAppm 6 (96, 63) (.sl .emp []) (.sl o (toPs f)) s = some (.msl s.obs.length 6 0 f.length, ⟨s.obs ++ [.arr 63 (cellsP f)], s.bufs⟩) := by
  have hroom : room = 140737488355328 := by decide
  have hc : ∀ g : List (List UInt8 × JV), ((toPs g).all fun v => v.cells.length == 6) = true := by
    intro g
    induction g with
    | nil => rfl
    | cons p g ih => obtain ⟨k, v⟩ := p; simp [toPs, ih, vc_length]
  have h1 : srcCells 6 (.sl o (toPs f)) s = some (cellsP f, f.length) := by
    simp only [srcCells]
    rw [if_pos ⟨fitsPs f, cellsP_one f, hc f⟩, toPs_length]
    rfl
  simp only [evAppm, h1]
  rw [if_neg hf, if_pos (by rw [hroom]; omega)]

/-! ### The plain law -/
theorem sameP_eq {p q : Pay} (h : sameP p q = true) : p = q := by
  simp only [sameP, sameH, Bool.and_eq_true, decide_eq_true_eq] at h
  obtain ⟨⟨⟨⟨⟨⟨⟨⟨h1, h2⟩, h3⟩, h4⟩, h5⟩, h6⟩, h7⟩, ⟨⟨h8, h9⟩, h10⟩, _⟩, h11⟩ := h
  have h8' := (sameV_iff _ _).1 h8
  obtain ⟨a, b, c, d, e, f, g, i, j, k, l⟩ := p
  obtain ⟨a', b', c', d', e', f', g', i', j', k', l'⟩ := q
  simp only at h1 h2 h3 h4 h5 h6 h7 h8' h9 h10 h11
  subst h1 h2 h3 h4 h5 h6 h7 h8' h9 h10 h11
  rfl
theorem bent_same {p : Pay} {w : JV} (hr : rightB p = true) (ho : ofB w = true) : sameP p (readP w) = sameV (payJ p) w := by
  unfold ofB at ho
  simp only [Bool.and_eq_true] at ho
  have hw := (sameV_iff _ _).1 ho.2
  rw [Bool.eq_iff_iff]
  constructor
  · intro h
    have := sameP_eq h
    rw [this, ← hw]
    exact (sameV_iff _ _).2 rfl
  · intro h
    have := (sameV_iff _ _).1 h
    rw [← this, read_back hr]
    exact sameP_self p
theorem okPs_mem' {l : List (List UInt8 × JV)} (h : okPs l) : ∀ p ∈ l, p.1.length ≤ 9223372036854775807 ∧ p.2.ok := okPs_mem h
theorem okPs_set : ∀ {l : List (List UInt8 × JV)} {k : Nat} {key : List UInt8} {x : JV}, okPs l → key.length ≤ 9223372036854775807 → x.ok → okPs (l.set k (key, x))
  | [], _, _, _, _, _, _ => trivial
  | p :: l, 0, _, _, h, hk, hx => ⟨hk, hx, h.2.2⟩
  | p :: l, k + 1, _, _, h, hk, hx => ⟨h.1, h.2.1, okPs_set h.2.2 hk hx⟩
theorem limPs_set : ∀ {l : List (List UInt8 × JV)} {k : Nat} {key : List UInt8} {x : JV}, limPs l → x.lim → limPs (l.set k (key, x))
  | [], _, _, _, _, _ => trivial
  | p :: l, 0, _, _, h, hx => ⟨hx, h.2⟩
  | p :: l, k + 1, _, _, h, hx => ⟨h.1, limPs_set h.2 hx⟩
theorem shPs_set : ∀ {l : List (List UInt8 × JV)} {k : Nat} {key : List UInt8} {x : JV}, shPs l → x.sh → shPs (l.set k (key, x))
  | [], _, _, _, _, _ => trivial
  | p :: l, 0, _, _, h, hx => ⟨hx, h.2⟩
  | p :: l, k + 1, _, _, h, hx => ⟨h.1, shPs_set h.2 hx⟩

theorem payR_f (p : Pay) : (payR p).f.length ≠ 0 ∧ (payR p).f.length ≤ 10 := by
  have h1 := f1R_len p
  have h2 := f2R_len p
  have h3 := f3R_len p
  have h4 := f4R_len p
  simp only [payR, JV.f, List.length_append, List.length_cons, List.length_nil]
  omega
theorem payR_mk (p : Pay) : ∃ f, payR p = .mk 5 0 [] [] f := ⟨_, rfl⟩

theorem bent_law (p : Pay) (hok : p.ok) (n : Nat) (hn : n < 256) (x : JV) (hx : x.ok) : ∃ s', call G 6 [payV p, .int .u8 n, toV x] ⟨[], []⟩ = some (.bool true, s') := by
  have ha := awakeC_spec
  have hf := fun s => fewP_spec p hok.data s
  have hfx := fun s => fewN_spec x hx 20 (by omega) (by omega) s
  refine ⟨⟨[], []⟩, ?_⟩
  refine call_out (F := af6) rfl rfl ?_
  cases hfew : fewP p with
  | false =>
    rw [hfew] at hf
    clear hok hfew hx hfx
    obtain ⟨fi, ⟨k1, nn1, b1, l1, f1⟩, er, pe, rc, id, st, od, en, fa, mo⟩ := p
    obtain ⟨k2, nn2, b2, l2, f2⟩ := x
    simp only [payV, payC, toV, vc, List.cons_append, List.nil_append] at hf
    simp [af6, af6b, payC, vc, ha, hf]
  | true =>
    obtain ⟨hl, hb, hnn⟩ := few_lim hok hfew
    have hfine := fine_payR hl hnn
    have h1 := fun s => refRightP_spec p hl hfine.1 s
    rw [hfew] at hf
    rw [← right_R] at h1
    cases hr : rightB p with
    | false =>
      rw [hr] at h1
      clear hok hfew hl hb hnn hfine hr hx hfx
      obtain ⟨fi, ⟨k1, nn1, b1, l1, f1⟩, er, pe, rc, id, st, od, en, fa, mo⟩ := p
      obtain ⟨k2, nn2, b2, l2, f2⟩ := x
      simp only [payV, payC, toV, vc, List.cons_append, List.nil_append] at hf h1
      simp [af6, af6b, payC, vc, ha, hf, h1]
    | true =>
      rw [hr] at h1
      by_cases hfx0 : 0 ≤ fewV x 20
      · rw [decide_eq_true hfx0] at hfx
        obtain ⟨xlim, xsh, _⟩ := few_fine x 20 (by omega) hfx0
        have h2 := fun s => value_pay p hl hnn s
        rw [hr] at h2
        simp only [if_true] at h2
        have hR := right_payR hr
        have hs := sh_payR hl hb
        have hlen := payR_f p
        rw [← hR] at hfine hs hlen
        have h3 := fun q s => sameP_spec p q hl s
        have h4 := fun w s => same_spec (payJ p) w hfine.1 s
        have hbs := fun w => bent_same (p := p) (w := w) hr
        obtain ⟨F, hF⟩ : ∃ F, payJ p = .mk 5 0 [] [] F := by
          obtain ⟨F, h⟩ := payR_mk p
          exact ⟨F, hR.trans h⟩
        rw [hF] at h2 h4 hfine hs hlen hbs
        simp only [JV.f] at hlen
        obtain ⟨l0, l10⟩ := hlen
        -- which pair
        obtain ⟨k, hk⟩ : ∃ k, k = n % F.length := ⟨_, rfl⟩
        have hkl : k < F.length := by rw [hk]; exact Nat.mod_lt _ (by omega)
        have hkm : Int.tmod (n : Int) (F.length : Int) = (k : Int) := by
          rw [hk]; exact (Int.ofNat_tmod n F.length).symm
        obtain ⟨F', hF'⟩ : ∃ F', F.set k (F[k].1, x) = F' := ⟨_, rfl⟩
        have hF'l : F'.length = F.length := by rw [← hF']; simp
        have hw : (JV.mk 5 0 [] [] F').ok ∧ (JV.mk 5 0 [] [] F').lim ∧ (JV.mk 5 0 [] [] F').sh := by
          obtain ⟨⟨a1, a2, a3, a4, a5, a6, a7⟩, b1, b2, b3, b4⟩ := hfine
          obtain ⟨c1, c2, c3⟩ := hs
          have hkey := (okPs_mem a7 F[k] (List.getElem_mem hkl)).1
          rw [← hF']
          exact ⟨⟨a1, a2, a3, a4, by simpa using a5, a6, okPs_set a7 hkey hx⟩, ⟨b1, by simpa using b2, b3, limPs_set b4 xlim⟩, ⟨c1, c2, shPs_set c3 xsh⟩⟩
        have h5 := fun s => of_spec (.mk 5 0 [] [] F') hw.1 hw.2.1 hw.2.2 s
        have hb1 := hbs (.mk 5 0 [] [] F')
        have hget := cellsP_get F k hkl
        have hput := putL_ps F k hkl F[k].1 x
        rw [hF'] at hput
        have hrow := rowV_ps F'
        rw [hF'l] at hrow
        have happ := fun o s => appm_ps F l0 (by omega) o s
        have hcl := cellsP_len F
        have hcl' := cellsP_len F'
        have hL0 : ¬ ((F.length : Int) = 0) := by omega
        have hwu : IntKind.i64.wrap (n : Int) = (n : Int) := wrap_in (by omega) (by omega)
        have hkl' : (k : Int) < F.length := by omega
        have h6k : k * 6 + 6 ≤ (cellsP F).length := by rw [hcl]; omega
        generalize F[k].1 = key at *
        generalize cellsP F' = C' at *
        generalize cellsP F = C at *
        have h3' := fun s => h3 (if ofB (.mk 5 0 [] [] F') = true then readP (.mk 5 0 [] [] F') else zeroP) s
        have h4' := fun s => h4 (.mk 5 0 [] [] F') s
        clear h3 h4 hw hok hfew hl hb hnn hfine hR hs hF hbs hfx0 xlim xsh hx hk hr
        have hL : F.length = F'.length := hF'l.symm
        cases ho : ofB (.mk 5 0 [] [] F') with
        | false =>
          rw [ho] at h5
          obtain ⟨fi, ⟨k1, nn1, b1, l1, f1⟩, er, pe, rc, id, st, od, en, fa, mo⟩ := p
          obtain ⟨k2, nn2, b2, l2, f2⟩ := x
          simp only [zeroP, jNull, payV, payC, toV, vc, toVs, toPs, erVs_nil, pnVs_nil, sgVs_nil, Bool.false_eq_true, if_false, List.cons_append, List.nil_append] at hf h1 hfx h2 h5 hput
          simp [af6, af6b, payC, vc, ha, hf, h1, hfx, h2, toPs_length, toVs, hL0, l0, hwu, hkm, happ, hkl', h6k, ↓hget, hput, h5, evC_regDA, regKA_some, aparts_nil, aparts_tell, tells_nil, tells_frz, frzAt, hrow, cells_msl', fillL, fillS, evStore, putL, V.one, List.getElem?_append, List.set_append]
        | true =>
          rw [ho] at h5 h3'
          have hbb := hb1 ho
          simp only [if_true] at h5 h3'
          rw [hbb] at h3'
          generalize sameV (.mk 5 0 [] [] F) (.mk 5 0 [] [] F') = bb at *
          generalize readP (.mk 5 0 [] [] F') = q at *
          obtain ⟨fi, ⟨k1, nn1, b1, l1, f1⟩, er, pe, rc, id, st, od, en, fa, mo⟩ := p
          obtain ⟨k2, nn2, b2, l2, f2⟩ := x
          obtain ⟨fi', ⟨k3, nn3, b3, l3, f3⟩, er', pe', rc', id', st', od', en', fa', mo'⟩ := q
          simp only [payV, payC, toV, vc, toVs, toPs, List.cons_append, List.nil_append] at hf h1 hfx h2 h5 hput h3' h4'
          simp [af6, af6b, payC, vc, ha, hf, h1, hfx, h2, toPs_length, toVs, hL0, l0, hwu, hkm, happ, hkl', h6k, ↓hget, hput, h5, h3', h4', evC_regDA, regKA_some, aparts_nil, aparts_tell, tells_nil, tells_frz, frzAt, hrow, cells_msl', fillL, fillS, evStore, putL, V.one, List.getElem?_append, List.set_append]
      · rw [decide_eq_false hfx0] at hfx
        clear hok hfew hl hb hnn hfine hr hx hfx0
        obtain ⟨fi, ⟨k1, nn1, b1, l1, f1⟩, er, pe, rc, id, st, od, en, fa, mo⟩ := p
        obtain ⟨k2, nn2, b2, l2, f2⟩ := x
        simp only [payV, payC, toV, vc, List.cons_append, List.nil_append] at hf h1 hfx
        simp [af6, af6b, payC, vc, ha, hf, h1, hfx]

end Go.Proofs.YtboejpobmpfifaaGreatDoor.Eng
