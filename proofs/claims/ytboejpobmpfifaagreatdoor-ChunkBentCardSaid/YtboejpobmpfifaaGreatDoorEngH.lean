/-
  The evaluator is sound: the theorem. Its condition: that the table's functions are the program's, and that what is laid down of primitive functions holds.
-/
import Derived.Test.YtboejpobmpfifaaGreatDoorEngG
namespace Go.Proofs.YtboejpobmpfifaaGreatDoor.Eng
open Go Go.RowKit
set_option linter.unusedSimpArgs false

section
variable {P : Program} {B : Nat} {w0 : World} {S : Sit}

theorem soundC_reg {rows : List ARow} {env : Env} {s : St} {r : Env × St} (hr : SoundR P B w0 rows env s r) : SoundC P B w0 (.reg rows) env s (.norm, r) := by
  intro hok h n code S a hb hst hI hE hn hd
  obtain ⟨id, ops, rfl, hm⟩ := cBody_reg hb
  refine wp_region ?_
  have hseg := seg_of_mapM ops.toList 0 _ hm (fun j o hj => by simpa using hj)
  have hlen : List.range' 0 ops.toList.length = List.range ops.size := by simp [List.range_eq_range']
  rw [hlen] at hseg
  have := hr.2 hok h ops n none (List.range ops.size) [] (PostC B w0 S n (.norm, r)) S a hseg trivial (by rintro q ⟨⟩) hst hI hE hn ?_
  · simpa using this
  · intro S' a' t
    exact ⟨S', rfl, t.st, t.inv, t.ext, t.env, by rw [t.size]; exact hn, by rw [t.defers]; exact hd, trivial⟩

theorem set_get_self {α : Type _} {l : List α} {i : Nat} {x : α} (h : l[i]? = some x) : l.set i x = l := by
  apply List.ext_getElem?
  intro j
  rw [List.getElem?_set]
  split
  · rename_i e
    subst e
    rw [if_pos (lt_of_get h), h]
  · rfl

theorem toldAt_ok (hI : Inv B w0 S) (p : V) {q : V} {d : Value} (hq : Rel S q d) : ∃ S', S'.w = S.w ∧ S'.st = toldAt p q S.st ∧ Inv B w0 S' ∧ Ext S S' := by
  unfold toldAt
  split
  · rename_i id off
    split
    · rename_i t cs hob
      split
      · rename_i x hx
        have hid := lt_of_get hob
        have hE := Ext.turn hI hid (by rw [hob]; simp) (Turns.refl S.w (S.μ id)) (.cells t (cs.set off (told x q)))
        refine ⟨S.turn id (.cells t (cs.set off (told x q))) S.w, rfl, rfl, ?_, hE⟩
        obtain ⟨cc, hh, hl⟩ := hI.cellsOf hob
        obtain ⟨c, hc, hr⟩ := hl.get off x hx
        refine hI.turn hid (by rw [hob]; simp) (Turns.refl _ _) ?_ (fun _ _ _ => ⟨t, cs, hob⟩)
        refine ⟨cc, hh, ?_⟩
        have h2 := hl.set off (told_ok hr hq)
        rw [set_get_self hc] at h2
        exact h2.mono hE
      · exact ⟨S, rfl, rfl, hI, Ext.refl S⟩
    · exact ⟨S, rfl, rfl, hI, Ext.refl S⟩
  · exact ⟨S, rfl, rfl, hI, Ext.refl S⟩

theorem frzAt_ok (hI : Inv B w0 S) (p : V) (q : Nat) : ∃ S', S'.w = S.w ∧ S'.st = frzAt p q S.st ∧ Inv B w0 S' ∧ Ext S S' := by
  have same : ∃ S' : Sit, S'.w = S.w ∧ S'.st = S.st ∧ Inv B w0 S' ∧ Ext S S' := ⟨S, rfl, rfl, hI, Ext.refl S⟩
  unfold frzAt
  split
  · rename_i id o
    split
    · rename_i t cs hob
      split
      · rename_i id2 sz len hx
        split
        · rename_i t2 cs2 ho2
          split
          · rename_i xs hxs
            obtain ⟨x1, x2, x3, x4⟩ := rowV_some hxs
            have hid := lt_of_get hob
            have hid2 := lt_of_get ho2
            have hne : id ≠ id2 := fun e => by rw [e, ho2] at hob; cases hob
            have hnd : S.st.obs[id2]? ≠ some .dead := by rw [ho2]; simp
            have hob' : (S.bury id2).st.obs[id]? = some (.cells t cs) := by rw [bury_get hid2, if_neg hne]; exact hob
            have hidb : id < (S.bury id2).st.obs.length := lt_of_get hob'
            have hIb := hI.bury hid2
            have hE1 := Ext.bury S id2
            have hE2 := Ext.turn hIb hidb (by rw [hob']; simp) (Turns.refl S.w (S.μ id)) (.cells t (cs.set (o + q) (.sl .no xs)))
            have hE := hE1.trans hE2
            refine ⟨(S.bury id2).turn id (.cells t (cs.set (o + q) (.sl .no xs))) S.w, rfl, rfl, ?_, hE⟩
            obtain ⟨cc, hh, hl⟩ := hI.cellsOf hob
            obtain ⟨c, hc, hr⟩ := hl.get (o + q) _ hx
            refine hIb.turn hidb (by rw [hob']; simp) (Turns.refl _ _) ?_ (fun _ _ _ => ⟨t, cs, hob'⟩)
            refine ⟨cc, hh, ?_⟩
            have hv : Rel ((S.bury id2).turn id (.cells t (cs.set (o + q) (.sl .no xs))) S.w) (.sl .no xs) c := by
              cases hr with
              | msl _ _ _ _ cap t' hi hlc hsh =>
                obtain ⟨_, c2, rest, hcc, hrl⟩ := hI.obj _ _ ho2
                have := Rel.slAt (S := (S.bury id2).turn id (.cells t (cs.set (o + q) (.sl .no xs))) S.w) .no xs (S.μ id2) 0 cap sz (by rw [x1]; exact hlc) x3 (by
                  rw [x2]
                  refine RelC.of (hrl.plain.mono hE) x4 (fun k d hk => ⟨?_, ?_⟩)
                  · have hk2 : (c2 ++ rest)[k]? = some d := by rw [List.getElem?_append_left (List.getElem?_eq_some_iff.1 hk).1]; exact hk
                    show S.w.cell? _ = _
                    simp only [World.cell?, hcc, Nat.zero_add]
                    simpa using hk2
                  · rintro (⟨i, ⟨hi', hd'⟩, e⟩ | ⟨i, hi', e, h1, h2⟩ | ⟨q', hq', hq2⟩)
                    · have hi3 : i < S.st.obs.length := by simpa [Sit.turn, Sit.bury] using hi'
                      have e' : S.μ id2 = S.μ i := e
                      have hd3 : ((S.st.obs.set id2 .dead).set id (.cells t (cs.set (o + q) (.sl .no xs))))[i]? ≠ some .dead := hd'
                      have hi2 : i ≠ id2 := by
                        intro q'
                        subst q'
                        rw [List.getElem?_set_ne hne, List.getElem?_set_self hid2] at hd3
                        exact hd3 rfl
                      rcases hI.inj id2 i hid2 hi3 e' with g | g | g
                      · exact hi2 g.symm
                      · exact hnd g
                      · have : i ≠ id := fun q' => by rw [q', hob] at g; cases g
                        rw [List.getElem?_set_ne (fun q' => this q'.symm), List.getElem?_set_ne (fun q' => hi2 q'.symm)] at hd3
                        exact hd3 g
                    · exact hI.bufobj i id2 hi' hid2 (.inl (Nat.lt_of_le_of_lt h1 h2)) e.symm
                    · exact (hI.hid _ q' hq').2.2.1 id2 hid2 rfl) trivial
                rw [x1] at this
                exact this
            have h2 := (hl.mono hE).set (o + q) hv
            rw [set_get_self hc] at h2
            exact h2
          · exact same
        · exact same
      · exact same
    · exact same
  · exact same

theorem tells_ok : ∀ (aps : List (Nat × Nat)) {S : Sit} {env : Env} {a : Act}, Inv B w0 S → EnvOk S env a →
    ∃ S', S'.w = S.w ∧ S'.st = (tells aps env S.st).2 ∧ Inv B w0 S' ∧ Ext S S' ∧ EnvOk S' (tells aps env S.st).1 a
  | [], S, env, a, hI, hE => ⟨S, rfl, rfl, hI, Ext.refl S, hE⟩
  | p :: r, S, env, a, hI, hE => by
    simp only [tells]
    split
    · exact tells_ok r hI hE
    · split
      · obtain ⟨S1, h1, h2, h3, h4⟩ := toldAt_ok hI (env p.1) (hE (p.2 - 2000000))
        obtain ⟨S2, k1, k2, k3, k4, k5⟩ := tells_ok r h3 (hE.mono h4)
        rw [h2] at k2 k5
        exact ⟨S2, k1.trans h1, k2, k3, h4.trans k4, k5⟩
      · split
        · refine tells_ok r hI ?_
          intro t
          simp only [upd]
          split
          · rename_i e
            subst e
            exact told_ok (hE _) (hE _)
          · exact hE t
        · obtain ⟨S1, h1, h2, h3, h4⟩ := frzAt_ok hI (env p.1) (p.2 - 4000000)
          obtain ⟨S2, k1, k2, k3, k4, k5⟩ := tells_ok r h3 (hE.mono h4)
          rw [h2] at k2 k5
          exact ⟨S2, k1.trans h1, k2, k3, h4.trans k4, k5⟩

theorem soundC_regD {aps : List (Nat × Nat)} {rows : List ARow} {env : Env} {s : St} {r : Env × St} (hr : SoundT P B w0 rows env s r) (hap : aparts aps r.1 = true) : SoundC P B w0 (.regD aps rows) env s (.norm, tells aps r.1 r.2) := by
  intro hok h n code S a hb hst hI hE hn hd
  obtain ⟨id, ops, rfl, hm, hp, hdr⟩ := cBody_regD hb
  refine region_any (hr.2 hok none trivial (by rintro q ⟨⟩)) hm hp hdr hap hst hI hE hn ?_
  intro S' a' h1 h2 h3 h4 h5 h6
  obtain ⟨S2, k1, k2, k3, k4, k5⟩ := tells_ok aps h2 h4
  rw [h1] at k2 k5
  exact ⟨S2, k1, k2, k3, h3.trans k4, k5, by rw [h5]; exact hn, by rw [h6]; exact hd, trivial⟩

theorem soundC_skip {env : Env} {s : St} : SoundC P B w0 .skip env s (.norm, env, s) := by
  intro _ h n code S a hb hst hI hE hn hd
  have hp : PostC B w0 S n (.norm, env, s) .normal a S.w := ⟨S, rfl, hst, hI, Ext.refl S, hE, hn, hd, trivial⟩
  rcases cBody_skip hb with rfl | ⟨l, rfl⟩
  · exact wp_skip hp
  · exact wp_label hp

theorem soundC_exit {i : Nat} {env : Env} {s : St} : SoundC P B w0 (.exit i) env s (.exit i, env, s) := by
  intro _ h n code S a hb hst hI hE hn hd
  have := cBody_exit hb
  subst this
  exact wp_exit (⟨S, rfl, hst, hI, Ext.refl S, hE, hn, hd, rfl⟩)

theorem soundC_ret {env : Env} {s : St} : SoundC P B w0 .ret env s (.ret, env, s) := by
  intro _ h n code S a hb hst hI hE hn hd
  have := cBody_ret hb
  subst this
  exact wp_ret (⟨S, rfl, hst, hI, Ext.refl S, hE, hn, hd, trivial⟩)

theorem soundC_scope {c : ACode} {env : Env} {s : St} {r : AExit × Env × St} (hc : SoundC P B w0 c env s r) : SoundC P B w0 (.scope c) env s r := by
  intro hok h n code S a hb hst hI hE hn hd
  obtain ⟨x, rfl, hx⟩ := cBody_scope hb
  refine wp_scope_straight (wp_mono (hc hok h n x S a hx hst hI hE hn hd).wp ?_)
  intro e a' w' hp
  cases e with
  | goto l =>
    obtain ⟨S', _, _, _, _, _, _, _, he⟩ := hp
    · exfalso
      obtain ⟨ex, q⟩ := r
      cases ex <;> exact he
  | _ => exact hp

theorem soundC_cond {x : X} {c d : ACode} {env : Env} {s : St} {r : AExit × Env × St} {t : Bool} (hx : x.ev env = .bool t)
    (h1 : t = true → SoundC P B w0 c env s r) (h2 : t = false → SoundC P B w0 d env s r) : SoundC P B w0 (.cond x c d) env s r := by
  intro hok h n code S a hb hst hI hE hn hd
  simp only [okC, Bool.and_eq_true] at hok
  obtain ⟨o, u, v, rfl, ho, hu, hv⟩ := cBody_cond hb
  have hxv := cX_ok hE ho
  rw [hx] at hxv
  exact wp_cond_split hxv.bool_inv (fun ht => (h1 ht hok.1 h n u S a hu hst hI hE hn hd).wp) (fun ht => (h2 ht hok.2 h n v S a hv hst hI hE hn hd).wp)

theorem soundC_seq {c d : ACode} {env : Env} {s : St} {r1 r : AExit × Env × St} (h1 : SoundC P B w0 c env s r1)
    (h2 : r1.1 = .norm → SoundC P B w0 d r1.2.1 r1.2.2 r) (h3 : r1.1 ≠ .norm → r = r1) : SoundC P B w0 (.seq c d) env s r := by
  intro hok h n code S a hb hst hI hE hn hd
  simp only [okC, Bool.and_eq_true] at hok
  obtain ⟨u, v, rfl, hu, hv⟩ := cBody_seq hb
  refine wp_seq (wp_mono (h1 hok.1 h n u S a hu hst hI hE hn hd).wp ?_)
  intro e a' w' hp
  obtain ⟨S', rfl, hst', hI', hX, hE', hn', hd', he⟩ := hp
  · obtain ⟨ex, env1, s1⟩ := r1
    cases ex with
    | norm =>
      cases e <;> first | exact he.elim | skip
      exact wp_mono (h2 rfl hok.2 h n v S' a' hv hst' hI' hE' hn' hd').wp (fun e a w hp => hp.ext hX)
    | exit i =>
      have := h3 (by simp)
      subst this
      cases e <;> first | exact he.elim | skip
      exact ⟨S', rfl, hst', hI', hX, hE', hn', hd', he⟩
    | ret =>
      have := h3 (by simp)
      subst this
      cases e <;> first | exact he.elim | skip
      exact ⟨S', rfl, hst', hI', hX, hE', hn', hd', he⟩

theorem soundC_blk {i : Nat} {c : ACode} {env : Env} {s : St} {r1 r : AExit × Env × St} (h1 : SoundC P B w0 c env s r1)
    (h2 : r1.1 = .exit i → r = (.norm, r1.2)) (h3 : r1.1 ≠ .exit i → r = r1) : SoundC P B w0 (.blk i c) env s r := by
  intro hok h n code S a hb hst hI hE hn hd
  obtain ⟨u, rfl, hu⟩ := cBody_blk hb
  refine wp_block (wp_mono (h1 hok h n u S a hu hst hI hE hn hd).wp ?_)
  intro e a' w' hp
  obtain ⟨S', rfl, hst', hI', hX, hE', hn', hd', he⟩ := hp
  · obtain ⟨ex, env1, s1⟩ := r1
    cases ex with
    | norm =>
      have := h3 (by simp)
      subst this
      cases e <;> first | exact he.elim | skip
      exact ⟨S', rfl, hst', hI', hX, hE', hn', hd', he⟩
    | ret =>
      have := h3 (by simp)
      subst this
      cases e <;> first | exact he.elim | skip
      exact ⟨S', rfl, hst', hI', hX, hE', hn', hd', he⟩
    | exit j =>
      cases e <;> first | exact he.elim | skip
      rename_i j'
      have hjj : j = j' := he
      subst hjj
      by_cases hij : j = i
      · subst hij
        have := h2 rfl
        subst this
        simp only [Exit.inBlock, if_true]
        exact ⟨S', rfl, hst', hI', hX, hE', hn', hd', trivial⟩
      · have := h3 (by simpa using hij)
        subst this
        simp only [Exit.inBlock, if_neg hij]
        exact ⟨S', rfl, hst', hI', hX, hE', hn', hd', rfl⟩

theorem soundC_loop {gc : Bool} {c : ACode} {env : Env} {s : St} {r1 r : AExit × Env × St} (h1 : SoundC P B w0 c env s r1)
    (h2 : r1.1 = .norm → SoundC P B w0 (.loop gc c) (finLoop gc s r1.2.2 r1.2.1).1 (finLoop gc s r1.2.2 r1.2.1).2 r) (h3 : r1.1 ≠ .norm → r = r1) : SoundC P B w0 (.loop gc c) env s r := by
  intro hok h n code S a hb hst hI hE hn hd
  obtain ⟨u, rfl, hu⟩ := cBody_loop hb
  refine LoopWp.round (wp_mono (h1 hok h n u S a hu hst hI hE hn hd).wp ?_)
  intro e a' w' hp
  obtain ⟨S', rfl, hst', hI', hX, hE', hn', hd', he⟩ := hp
  · obtain ⟨ex, env1, s1⟩ := r1
    cases ex with
    | norm =>
      cases e <;> first | exact he.elim | skip
      obtain ⟨S'', hw, hst'', hI'', hX'', hE''⟩ := finLoop_ok hI hI' hX hE' gc
      simp only at hst'
      subst hst
      subst hst'
      have := h2 rfl hok h n (.loop u) S'' a' hb hst'' hI'' hE'' hn' hd'
      simp only [Exit.then]
      rw [← hw]
      intro b k cs
      obtain ⟨e, a2, w2, hq, harr⟩ := this b k cs
      exact ⟨e, a2, w2, hq.ext hX'', harr⟩
    | exit i =>
      have := h3 (by simp)
      subst this
      cases e <;> first | exact he.elim | skip
      exact ⟨S', rfl, hst', hI', hX, hE', hn', hd', he⟩
    | ret =>
      have := h3 (by simp)
      subst this
      cases e <;> first | exact he.elim | skip
      exact ⟨S', rfl, hst', hI', hX, hE', hn', hd', he⟩

/-! ### A call -/
theorem init_ok {args : List V} {cargs : List Value} (h : RelL S args cargs) (k : Nat) : EnvOk S (initEnv args) { tmps := cargs.toArray ++ Array.replicate k undef, defers := [] } := by
  intro t
  simp only [initEnv]
  have hlen := h.length
  rw [Array.getD_eq_getD_getElem?, Array.getElem?_append]
  by_cases ht : t < cargs.length
  · have hv : args[t]? = some args[t] := List.getElem?_eq_getElem (by omega)
    obtain ⟨c, hc, hrel⟩ := h.get t _ hv
    simp only [List.size_toArray, ht, if_true, List.getElem?_toArray, hc, Option.getD_some]
    rw [List.getD_eq_getElem?_getD, hv]
    exact hrel
  · rw [if_neg (by simpa using ht)]
    have : args.getD t (.tup []) = .tup [] := by
      rw [List.getD_eq_getElem?_getD, List.getElem?_eq_none (by omega)]; rfl
    rw [this]
    have hu : ((Array.replicate k undef)[t - cargs.toArray.size]?).getD undef = undef := by
      rw [Array.getElem?_replicate]
      split <;> rfl
    rw [hu]
    exact rel_undef

def resFn (tmps : Array Value) : ResultVar → Sem Value
  | .tmp t => Pure.pure (tmps.getD t undef)
  | .cell x t => do loadVar t (← asAddr (tmps.getD x undef))

theorem results_eq (fn : Func) (tmps : Array Value) : results fn tmps = (do
    let vs ← fn.results.mapM (resFn tmps)
    Pure.pure (if h : vs.size = 1 then vs[0] else .tuple vs)) := rfl

theorem resOf_ok (hI : Inv B w0 S) {env : Env} {a : Act} (hE : EnvOk S env a) : ∀ (l : List ResultVar) (rs : List ARes) (vs : List V), l.mapM (cRes P) = some rs → resOf S.st env rs = some vs →
    ∃ cs : List Value, (l.mapM (resFn a.tmps)).run P S.w = .ok cs S.w ∧ RelL S vs cs
  | [], rs, vs, hm, hr => by
    simp at hm; subst hm
    simp [resOf] at hr; subst hr
    exact ⟨[], rfl, .nil⟩
  | x :: l, rs, vs, hm, hr => by
    simp only [List.mapM_cons, Option.bind_eq_bind, Option.bind_eq_some_iff, Option.pure_def, Option.some.injEq] at hm
    obtain ⟨y, hy, rs', hrs, rfl⟩ := hm
    cases x with
    | tmp t =>
      simp only [cRes, Option.some.injEq] at hy
      subst hy
      simp only [resOf, Option.map_eq_some_iff] at hr
      obtain ⟨vs', hvs, rfl⟩ := hr
      obtain ⟨cs, hcs, hrel⟩ := resOf_ok hI hE l rs' vs' hrs hvs
      exact ⟨_ :: cs, by simp only [List.mapM_cons, resFn, Sem.run_bind, Sem.run_pure, Result.andThen_ok, hcs], .cons _ _ _ _ (hE t) hrel⟩
    | cell x t =>
      simp only [cRes, Option.map_eq_some_iff] at hy
      obtain ⟨n, hn, rfl⟩ := hy
      simp only [resOf] at hr
      split at hr
      · rename_i id off hv
        split at hr
        · rename_i cs0 hid
          split at hr
          · rename_i v hv'
            simp only [Option.map_eq_some_iff] at hr
            obtain ⟨vs', hvs, rfl⟩ := hr
            obtain ⟨cs, hcs, hrel⟩ := resOf_ok hI hE l rs' vs' hrs hvs
            have hx := hE x
            rw [hv] at hx
            obtain ⟨hp, _⟩ := hx.ptr_inv
            obtain ⟨cc, hh, hl⟩ := hI.cellsOf hid
            obtain ⟨c, hc, hcr⟩ := load_ok (P := P) (S := S) (b := S.μ id) (off := off) hn (hl.drop off) (cs := cc.drop off) (fun i c hc => by
              rw [cell_of_heap hh]
              rw [List.getElem?_drop] at hc
              exact hc) hv'
            have hA : (asAddr (a.tmps.getD x undef)).run P S.w = .ok ⟨S.μ id, off, none⟩ S.w := by rw [hp]; rfl
            exact ⟨c :: cs, by simp only [List.mapM_cons, resFn, Sem.run_bind, Sem.run_pure, Result.andThen_ok, hA, hc, hcs], .cons _ _ _ _ hcr hrel⟩
          · cases hr
        · cases hr
      · cases hr

theorem pack_ok {vs : List V} {cs : List Value} (h : RelL S vs cs) : Rel S (packR vs) (if h : cs.toArray.size = 1 then cs.toArray[0] else .tuple cs.toArray) := by
  cases h with
  | nil => exact .tup _ _ .nil
  | cons v c vs cs hv hl =>
    cases hl with
    | nil => exact hv
    | cons v' c' vs' cs' hv' hl' =>
      have : ¬ ((c :: c' :: cs').toArray.size = 1) := by simp
      rw [dif_neg this]
      exact .tup _ _ (.cons _ _ _ _ hv (.cons _ _ _ _ hv' hl'))

theorem sound_call {f : FuncId} {F : AFunc} (hof : Of P f F) (hok : okC F.body = true) {args : List V} {s : St} {r : AExit × Env × St} (hb : SoundC P B w0 F.body (initEnv args) s r)
    (hne : ∀ i, r.1 ≠ .exit i) {vs : List V} (hres : resOf r.2.2 r.2.1 F.res = some vs) : SoundCall P B w0 f args s (fin F.keep s r.2.2 (packR vs)) := by
  obtain ⟨h, hcomp⟩ := hof
  unfold compile at hcomp
  simp only [Option.bind_eq_bind, Option.bind_eq_some_iff] at hcomp
  obtain ⟨fn, hfn, hcomp⟩ := hcomp
  split at hcomp
  · cases hcomp
  · rename_i hname
    simp only [Option.bind_eq_some_iff] at hcomp
    obtain ⟨c, hc, rs, hrs, hcomp⟩ := hcomp
    split at hcomp
    · simp only [Option.pure_def, Option.some.injEq, Prod.mk.injEq] at hcomp
      obtain ⟨_, hrq, hfc⟩ := hcomp
      subst hrq
      intro S cargs hst hI hargs
      left
      refine ⟨?_, ?_⟩
      · have hbn : ¬ fn.body = none := by rw [hc]; simp
        simp [callFunc, hfn, hname, hbn]
      · refine calls_of_wp hfn hc ?_
        have hE := init_ok hargs (fn.ntmps - cargs.toArray.size)
        have hsz : fn.ntmps ≤ (cargs.toArray ++ Array.replicate (fn.ntmps - cargs.toArray.size) undef).size := by simp; omega
        refine wp_mono (hb hok h fn.ntmps c S _ hfc hst hI hE hsz rfl).wp ?_
        intro e a' w' hp
        obtain ⟨S', rfl, hst', hI', hX, hE', hn', hd', he⟩ := hp
        · have hend : bodyPost P fn (fun e w' => ∃ c S', e = .returned c ∧ S'.w = w' ∧ S'.st = (fin F.keep s r.2.2 (packR vs)).2 ∧ Inv B w0 S' ∧ Ext S S' ∧ Rel S' (fin F.keep s r.2.2 (packR vs)).1 c) .normal a' S'.w := by
            rw [← hst'] at hres
            obtain ⟨cs, hcs, hrel⟩ := resOf_ok (P := P) hI' hE' _ _ _ hrs hres
            refine ⟨hd', (if h : cs.toArray.size = 1 then cs.toArray[0] else .tuple cs.toArray), ?_, ?_⟩
            rotate_left
            · obtain ⟨S'', hw, hst'', hI'', hX'', hr''⟩ := fin_ok hI hI' hX (pack_ok hrel) F.keep
              rw [hst, hst'] at hst'' hr''
              exact ⟨_, S'', rfl, hw, hst'', hI'', hX'', hr''⟩
            · rw [results_eq, Sem.run_bind, Array.mapM_eq_mapM_toList, Sem.run_map, hcs]
              rfl
          obtain ⟨ex, q⟩ := r
          cases ex with
          | norm => cases e <;> first | exact he.elim | exact hend
          | exit i => exact absurd rfl (hne i)
          | ret => cases e <;> first | exact he.elim | exact hend
    · cases hcomp

/-! ### The theorem -/
/-- What the evaluator's table must be. -/
structure Fits (P : Program) (B : Nat) (w0 : World) (G : Gp) : Prop where
  tab : ∀ f F, G.tab f = some F → Of P f F ∧ okC F.body = true
  prim : ∀ f p, G.prim f = some p → ∀ args s r, p args s = some r → SoundCall P B w0 f args s r

theorem sound_step {G : Gp} (hG : Fits P B w0 G) {n : Nat} (hC : ∀ c env s r, (evn G n).c c env s = some r → SoundC P B w0 c env s r)
    (hR : ∀ rows env s r, (evn G n).r rows env s = some r → SoundR P B w0 rows env s r ∧ SoundT P B w0 rows env s r)
    (hCall : ∀ f args s r, (evn G n).f f args s = some r → SoundCall P B w0 f args s r) :
    (∀ c env s r, (evn G (n + 1)).c c env s = some r → SoundC P B w0 c env s r) ∧ (∀ rows env s r, (evn G (n + 1)).r rows env s = some r → SoundR P B w0 rows env s r ∧ SoundT P B w0 rows env s r) ∧
      (∀ f args s r, (evn G (n + 1)).f f args s = some r → SoundCall P B w0 f args s r) := by
  refine ⟨?_, ?_, ?_⟩
  · intro c env s r he
    change stepC (evn G n) c env s = some r at he
    cases c with
    | skip => simp only [stepC, Option.some.injEq] at he; subst he; exact soundC_skip
    | halt => cases he
    | reg rows =>
      simp only [stepC, Option.bind_eq_bind, Option.bind_eq_some_iff, Option.some.injEq] at he
      obtain ⟨q, hq, rfl⟩ := he
      exact soundC_reg (hR _ _ _ _ hq).1
    | regD aps rows =>
      simp only [stepC, Option.bind_eq_bind, Option.bind_eq_some_iff] at he
      obtain ⟨q, hq, he⟩ := he
      split at he
      · rename_i hap
        simp only [Option.some.injEq] at he
        subst he
        exact soundC_regD (hR _ _ _ _ hq).2 hap
      · cases he
    | seq a b =>
      simp only [stepC, Option.bind_eq_bind, Option.bind_eq_some_iff] at he
      obtain ⟨r1, h1, he⟩ := he
      refine soundC_seq (hC _ _ _ _ h1) ?_ ?_
      · intro hn
        rw [hn] at he
        exact hC _ _ _ _ he
      · intro hn
        obtain ⟨ex, q⟩ := r1
        cases ex with
        | norm => exact absurd rfl hn
        | _ => simpa using he.symm
    | cond x a b =>
      simp only [stepC] at he
      split at he
      · rename_i t hx
        refine soundC_cond hx ?_ ?_
        · rintro rfl
          exact hC _ _ _ _ (by simpa using he)
        · rintro rfl
          exact hC _ _ _ _ (by simpa using he)
      · cases he
    | blk i a =>
      simp only [stepC, Option.bind_eq_bind, Option.bind_eq_some_iff] at he
      obtain ⟨r1, h1, he⟩ := he
      refine soundC_blk (hC _ _ _ _ h1) ?_ ?_
      · intro hn
        rw [hn] at he
        simpa using he.symm
      · intro hn
        obtain ⟨ex, q⟩ := r1
        cases ex with
        | exit j =>
          have : ¬ j = i := fun e => hn (by rw [e])
          simp only [if_neg this] at he
          simpa using he.symm
        | _ => simpa using he.symm
    | loop gc a =>
      simp only [stepC, Option.bind_eq_bind, Option.bind_eq_some_iff] at he
      obtain ⟨r1, h1, he⟩ := he
      refine soundC_loop (hC _ _ _ _ h1) ?_ ?_
      · intro hn
        rw [hn] at he
        exact hC _ _ _ _ he
      · intro hn
        obtain ⟨ex, q⟩ := r1
        cases ex with
        | norm => exact absurd rfl hn
        | _ => simpa using he.symm
    | scope a => exact soundC_scope (hC _ _ _ _ he)
    | exit i => simp only [stepC, Option.some.injEq] at he; subst he; exact soundC_exit
    | ret => simp only [stepC, Option.some.injEq] at he; subst he; exact soundC_ret
  · intro rows env s r he
    change stepRows (evn G n) rows env s = some r at he
    cases rows with
    | nil => simp only [stepRows, Option.some.injEq] at he; subst he; exact ⟨soundR_nil env s, soundT_nil env s⟩
    | cons row rs =>
      obtain ⟨d, op⟩ := row
      simp only [stepRows, Option.bind_eq_bind, Option.bind_eq_some_iff] at he
      obtain ⟨q, hq, he⟩ := he
      obtain ⟨hrest, hrestT⟩ := hR _ _ _ _ he
      cases op with
      | call own qu fx as =>
        simp only [ARow.op, stepO] at hq
        split at hq
        · rename_i f first cap hf
          split at hq
          · rename_i hoq
            simp only [Option.bind_eq_bind, Option.bind_eq_some_iff] at hq
            obtain ⟨q', hq', hqq⟩ := hq
            obtain ⟨hok, hqe⟩ := frOut_some hqq
            simp only [Bool.and_eq_true] at hoq
            obtain ⟨rfl, rfl⟩ := hoq
            have hF : Framed P B w0 f (first ++ as.map (fun x => (x.ev env).plain) ++ cap) s q.1 q.2 := by
              obtain ⟨v', s1'⟩ := q'
              exact ⟨s1', by rw [hqe]; exact hCall _ _ _ _ hq', by rw [hqe]; exact hok, by rw [hqe]⟩
            refine ⟨soundR_cons ?_ hrest, soundT_cons ?_ hrestT⟩
            · intro _ h ops n g is rest Q S a hs hsat _ hst hI hE hn k
              cases is with
              | nil => exact hs.elim
              | cons i is =>
                obtain ⟨⟨o, ho, hc⟩, hs⟩ := hs
                cases is with
                | cons _ _ => exact hs.elim
                | nil =>
                  subst hst
                  refine call_step (pl := false) ho hc (f := ⟨d, g, .call true true fx as⟩) hI hE hn hsat rfl hf (by simpa using hF.sound) ?_
                  intro S' a' t
                  refine k S' a' ?_
                  simp only [dstsO, kill_nil, dstsR, List.append_nil]
                  exact t
            · intro _ g hs _
              simp only [flatR, dstsO, kill_nil]
              exact .one (f := ⟨d, g, .call true true fx as⟩) (.fr fx as f first cap _ _ hs rfl hf hF)
          · rename_i hoq
            simp only [Option.bind_eq_bind, Option.bind_eq_some_iff] at hq
            obtain ⟨q', hq', hqq⟩ := hq
            obtain ⟨hqe, hqu⟩ := quiet_some hqq
            subst hqe
            refine ⟨soundR_cons ?_ hrest, soundT_cons ?_ hrestT⟩
            · intro _ h ops n g is rest Q S a hs hsat _ hst hI hE hn k
              cases is with
              | nil => exact hs.elim
              | cons i is =>
                obtain ⟨⟨o, ho, hc⟩, hs⟩ := hs
                cases is with
                | cons _ _ => exact hs.elim
                | nil =>
                  subst hst
                  refine call_step (pl := own) ho hc (f := ⟨d, g, .call own qu fx as⟩) hI hE hn hsat rfl hf (hCall _ _ _ _ hq') ?_
                  intro S' a' t
                  refine k S' a' ?_
                  simp only [dstsO, kill_nil, dstsR, List.append_nil]
                  exact t
            · intro _ g hs _
              simp only [flatR, dstsO, kill_nil]
              exact .one (f := ⟨d, g, .call own qu fx as⟩) (.call own qu fx as f first cap _ _ (by simpa using hoq) hs rfl hf (hCall _ _ _ _ hq') hqu)
        · cases hq
      | sc t and x rows b =>
        simp only [ARow.op, stepO] at hq
        split at hq
        · rename_i c hx
          refine ⟨soundR_cons (row_sc hx ?_ ?_) hrest, soundT_cons (rowT_sc hx ?_ ?_) hrestT⟩
          · intro hca
            rw [if_pos hca] at hq
            simp only [Option.bind_eq_bind, Option.bind_eq_some_iff, Option.some.injEq] at hq
            obtain ⟨r', hr', rfl⟩ := hq
            exact ⟨r', (hR _ _ _ _ hr').1, rfl⟩
          · intro hca
            rw [if_neg hca] at hq
            simpa using hq.symm
          · intro hca
            rw [if_pos hca] at hq
            simp only [Option.bind_eq_bind, Option.bind_eq_some_iff, Option.some.injEq] at hq
            obtain ⟨r', hr', rfl⟩ := hq
            exact ⟨r', (hR _ _ _ _ hr').2, rfl⟩
          · intro hca
            rw [if_neg hca] at hq
            simpa using hq.symm
        · cases hq
      | _ =>
        simp only [ARow.op, stepO] at hq
        exact ⟨soundR_cons (fun _ => row_plain (fun _ => rfl) rfl hq) hrest, soundT_cons (fun _ g hs _ => rowT_plain (fun _ => rfl) rfl hq g hs) hrestT⟩
  · intro f args s r he
    change stepF G (evn G n) f args s = some r at he
    simp only [stepF] at he
    split at he
    · rename_i p hp
      exact hG.prim f p hp args s r he
    · split at he
      · cases he
      · rename_i F hF
        obtain ⟨hof, hok⟩ := hG.tab f F hF
        simp only [Option.bind_eq_bind, Option.bind_eq_some_iff] at he
        obtain ⟨q, hq, he⟩ := he
        have hb := hC _ _ _ _ hq
        split at he
        · cases he
        · rename_i hne
          simp only [Option.bind_eq_some_iff, Option.some.injEq] at he
          obtain ⟨vs, hvs, rfl⟩ := he
          exact sound_call hof hok hb (fun i hi => hne i hi) hvs

theorem sound {G : Gp} (hG : Fits P B w0 G) :
    (∀ c env s r, evC G c env s = some r → SoundC P B w0 c env s r) ∧ (∀ rows env s r, evR G rows env s = some r → SoundR P B w0 rows env s r ∧ SoundT P B w0 rows env s r) ∧
      (∀ f args s r, call G f args s = some r → SoundCall P B w0 f args s r) := by
  have all : ∀ n, (∀ c env s r, (evn G n).c c env s = some r → SoundC P B w0 c env s r) ∧ (∀ rows env s r, (evn G n).r rows env s = some r → SoundR P B w0 rows env s r ∧ SoundT P B w0 rows env s r) ∧
      (∀ f args s r, (evn G n).f f args s = some r → SoundCall P B w0 f args s r) := by
    intro n
    induction n with
    | zero => exact ⟨fun _ _ _ _ h => (nomatch h), fun _ _ _ _ h => (nomatch h), fun _ _ _ _ h => (nomatch h)⟩
    | succ n ih => exact sound_step hG ih.1 ih.2.1 ih.2.2
  refine ⟨fun c env s r h => ?_, fun rows env s r h => ?_, fun f args s r h => ?_⟩
  · obtain ⟨n, hn⟩ := evC_some.1 h
    exact (all n).1 _ _ _ _ hn
  · obtain ⟨n, hn⟩ := evR_some.1 h
    exact (all n).2.1 _ _ _ _ hn
  · obtain ⟨n, hn⟩ := call_some.1 h
    exact (all n).2.2 _ _ _ _ hn

end
end Go.Proofs.YtboejpobmpfifaaGreatDoor.Eng
