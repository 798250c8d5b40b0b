/-
  From what the evaluator says of a law to the law's row. Condition: that the arguments' types are of numbers, bools, texts, lists and structs alone.
-/
import Derived.Test.YtboejpobmpfifaaGreatDoorEngP
import Derived.Carry
import Derived.ChangeSame
import Derived.RowKit
namespace Go.Proofs.YtboejpobmpfifaaGreatDoor.Eng
open Go Go.RowKit Go.ChangeShapes Go.WideShapes
set_option linter.unusedSimpArgs false
set_option linter.unusedVariables false

section
variable {P : Program} {H : Type} {enc : TypeId × Value → H}

theorem post_of_below {f : Func} {s : ChangeSpec} {apart fresh handsOn again : Bool} {W W' : World} {args : Array Value} {v : Value} {ds gs : List (DataW H)} {before pa pv : List MemPlace}
    (hW : DataW.Whole enc P f.params.toList s.vars apart W args.toList ds gs before)
    (hres : ∀ (b : Nat) (sp : Nat → Bool) (hd : Bool), DataW.TrodAll enc P W' b sp hd f.resultTypes.toList (v.resultList f.resultTypes.size) (s.fn H (ds ++ gs)).results [])
    (hargs : ∀ sp : Nat → Bool, (∀ p ∈ before, sp p.block = true) → DataW.TrodAll enc P W' 0 sp true f.params.toList args.toList (s.fn H (ds ++ gs)).args pa)
    (hvars : ∀ sp : Nat → Bool, (∀ p ∈ before, sp p.block = true) → DataW.TrodVars enc P W' sp s.vars (s.fn H (ds ++ gs)).vars pv)
    (hps : before = pa ++ pv) (hb : Below W.heap.size W W')
    (hok : ∀ (j : Nat) (t : TypeId) (r : Value), f.resultTypes[j]? = some t → (v.resultList f.resultTypes.size)[j]? = some r → Value.okWide P W' .any 0 t r) :
    s.post enc P f apart fresh handsOn again W args v W' := by
  have hold : ∀ p ∈ before, (fun b => decide (b < W.heap.size)) p.block = true := fun p hp => by simpa using hW.lt p hp
  have hlt := hW.lt
  refine ⟨ds, gs, before, [], pa, pv, hW, hres _ _ _, hargs _ hold, hvars _ hold, World.keptBut_mono (fun p hp => ⟨hp, ?_⟩) (hb.frame (· ∈ before)), fun _ => ?_⟩
  · rw [hps, List.mem_append] at hp
    exact Or.inr hp
  · obtain ⟨_, _, _, _, _, hz, hn⟩ := hW
    refine ⟨hok, _, _, ([] ++ pa) ++ pv, ⟨[] ++ pa, pv, trodAll_append (hargs _ (fun _ _ => rfl)) (hres _ _ _), hvars _ (fun _ _ => rfl), rfl, ?_, ?_⟩, ?_⟩
    · intro b off hp
      have hp' : MemPlace.cell b off ∈ before := by rw [hps]; simpa using hp
      rw [World.frozen?_of_block (w := W) (a := ⟨b, off, none⟩) (hb.block b (hlt _ hp'))]
      exact hz b off hp'
    · intro ha
      have := hn ha
      rw [hps] at this
      simpa using this
    · intro p hp _
      rw [hps]
      simpa using hp

/-- Arguments, as the evaluator takes them. -/
def ArgsOf (P : Program) : List TypeId → List V → Prop
  | [], [] => True
  | t :: ts, v :: vs => (∃ fuel x, Ty P fuel t x ∧ v = packT P t x) ∧ ArgsOf P ts vs
  | _, _ => False

theorem arg_read {W : World} {ts : List TypeId} (hc : closedT P ts = true) {t : TypeId} (ht : t ∈ ts) {base : Nat} {v : Value} (hv : Value.okWide P W .any base t v) {d : DataW H} {ps : List MemPlace}
    (h : DataW.Trod enc P W 0 (fun _ => true) true t v d ps) : ∃ u, (∃ fuel x, Ty P fuel t x ∧ u = packT P t x) ∧ Rel (Sit.start W) u v := by
  obtain ⟨fuel, hf⟩ := h
  obtain ⟨vs, hty, hrel, _, hlen⟩ := read_ok enc (fun _ => rfl) hc fuel t _ d ps ht hf
  refine ⟨packT P t vs, ⟨fuel, vs, hty, rfl⟩, ?_⟩
  have hagg : isAggT P t = true → ∃ cs, v = .agg cs := by
    intro ha
    unfold isAggT at ha
    unfold Value.okWide at hv
    split at ha
    · rename_i hu
      rw [hu] at hv
      obtain ⟨cs, h, _⟩ := hv
      exact ⟨cs, h⟩
    · rename_i hu
      rw [hu] at hv
      obtain ⟨cs, h, _⟩ := hv
      exact ⟨cs, h⟩
    · cases ha
  unfold packT
  by_cases ha : isAggT P t = true
  · rw [if_pos ha]
    obtain ⟨cs, rfl⟩ := hagg ha
    simp only [Value.cells] at hrel
    have := Rel.agg vs cs.toList hrel
    simpa using this
  · rw [if_neg ha]
    have hone : P.cellsOf t = 1 := by
      obtain ⟨hpos, hm⟩ := closedT_mem hc ht
      unfold isAggT at ha
      cases hu : P.underlying t with
      | none => rw [hu] at hm; exact hm.elim
      | some td =>
        rw [hu] at hm ha
        cases td <;> simp at hm ha <;> first | exact hm | exact hm.1
    rw [hone] at hlen
    have hvl : v.cells.toList.length = 1 := by rw [← hrel.length, hlen]
    generalize hcells : v.cells.toList = cc at hrel hvl
    cases hrel with
    | nil => simp at hlen
    | cons u c us cs hu hl =>
      have hus : us = [] := by cases us with
        | nil => rfl
        | cons _ _ => simp at hlen
      have hvv : v = c := by
        have hna : ¬ ∃ q, v = .agg q := by
          rintro ⟨q, rfl⟩
          unfold Value.okWide at hv
          unfold isAggT at ha
          cases hu : P.underlying t with
          | none => rw [hu] at hv; simp [Cell.okWide, hu, Cell.ok] at hv
          | some td =>
            rw [hu] at hv ha
            cases td <;> simp at ha <;> simp [Cell.okWide, hu, Cell.ok] at hv
        have hcs : v.cells.toList = [v] := by
          cases v <;> first | rfl | exact absurd ⟨_, rfl⟩ hna
        rw [hcs] at hcells
        simp at hcells
        exact hcells.1
      subst hvv
      exact hu

theorem args_read {W : World} {tc : List TypeId} (hc : closedT P tc = true) {base : Nat} : ∀ (ts : List TypeId) (vs : List Value) (ds : List (DataW H)) (ps : List MemPlace), (∀ t ∈ ts, t ∈ tc) →
    (∀ (j : Nat) t v, ts[j]? = some t → vs[j]? = some v → Value.okWide P W .any base t v) → DataW.TrodAll enc P W 0 (fun _ => true) true ts vs ds ps →
    ∃ us, ArgsOf P ts us ∧ RelL (Sit.start W) us vs
  | [], vs, ds, ps, _, _, h => by
    obtain ⟨rfl, rfl, rfl⟩ := trodAll_nil h
    exact ⟨[], trivial, .nil⟩
  | t :: ts, vs, ds, ps, ht, hv, h => by
    obtain ⟨v, vs', d, ds', p, q, rfl, rfl, rfl, h1, h2⟩ := trodAll_cons h
    obtain ⟨u, hu, hrel⟩ := arg_read hc (ht t (by simp)) (hv 0 t v rfl rfl) h1
    obtain ⟨us, hus, hrl⟩ := args_read hc ts vs' ds' q (fun t h => ht t (by simp [h])) (fun j t v h1 h2 => hv (j + 1) t v (by simpa using h1) (by simpa using h2)) h2
    exact ⟨u :: us, ⟨hu, hus⟩, .cons _ _ _ _ hrel hrl⟩

theorem args_stay {W W' : World} (hl : laidOutB P = true) (hb : Below W.heap.size W W') {sp : Nat → Bool} : ∀ (ts : List TypeId) (vs : List Value) (ds : List (DataW H)) (ps : List MemPlace),
    (∀ t ∈ ts, P.readableRec t = true ∧ t < P.types.size) → (∀ p ∈ ps, p.block < W.heap.size ∧ sp p.block = true) → DataW.TrodAll enc P W 0 (fun _ => true) true ts vs ds ps → DataW.TrodAll enc P W' 0 sp true ts vs ds ps
  | [], vs, ds, ps, _, _, h => by
    obtain ⟨rfl, rfl, rfl⟩ := trodAll_nil h
    exact h
  | t :: ts, vs, ds, ps, ht, hp, h => by
    obtain ⟨v, vs', d, ds', p, q, rfl, rfl, rfl, h1, h2⟩ := trodAll_cons h
    obtain ⟨r1, r2⟩ := ht t (by simp)
    exact ⟨p, q, WideElems.Trod_stays hl r1 r2 h1 (fun x hx => hb.same (hp x (by simp [hx])).1) (fun x hx => (hp x (by simp [hx])).2),
      args_stay hl hb ts vs' ds' q (fun t h => ht t (by simp [h])) (fun x hx => hp x (by simp [hx])) h2, rfl⟩

/-- The law's contract. -/
theorem law_contract {G : Gp} {f : FuncId} {fn : Func} {s : ChangeSpec} {apart fresh handsOn again : Bool} {tb : TypeId} {tc : List TypeId} {W : World} (hG : Fits P W.heap.size W G)
    (hfn : ∀ args w, (callFunc f args).run P w = .ok (.enter f args) w) (hl : laidOutB P = true) (hvars : s.vars = [])
    (hts : ∀ t ∈ fn.params.toList, P.readableRec t = true ∧ t < P.types.size ∧ t ∈ tc) (hc : closedT P tc = true) (hrt : fn.resultTypes = #[tb]) (htb : P.underlying tb = some .bool)
    (hspec : ∀ us, ArgsOf P fn.params.toList us → ∃ s', call G f us ⟨[], []⟩ = some (.bool true, s'))
    {base : Nat} {args : Array Value} {ds gs : List (DataW H)} {before : List MemPlace}
    (hs : ∀ ds' : List (DataW H), ds'.length = fn.params.size → (s.fn H ds').results = [.lit (.bool true)] ∧ (s.fn H ds').args = ds' ∧ (s.fn H ds').vars = [])
    (hval : ∀ (j : Nat) t v, fn.params[j]? = some t → args[j]? = some v → Value.okWide P W .any base t v) (hW : DataW.Whole enc P fn.params.toList s.vars apart W args.toList ds gs before) :
    Calls P f args W fun e W' => ∃ v, e = .returned v ∧ s.post enc P fn apart fresh handsOn again W args v W' := by
  have hW' := hW
  obtain ⟨p, q, hA, hV, rfl, hfz, hnd⟩ := hW
  rw [hvars] at hV
  obtain ⟨rfl, rfl⟩ := trodVars_none hV
  obtain ⟨us, hus, hrel⟩ := args_read hc fn.params.toList args.toList ds p (fun t ht => (hts t ht).2.2) (fun j t v h1 h2 => hval j t v (by simpa using h1) (by simpa using h2)) hA
  obtain ⟨s', hcall⟩ := hspec us hus
  have hdl : ∀ (ts : List TypeId) (vs : List Value) (ds : List (DataW H)) (ps : List MemPlace), DataW.TrodAll enc P W 0 (fun _ => true) true ts vs ds ps → ds.length = ts.length := by
    intro ts
    induction ts with
    | nil =>
      intro vs ds ps h
      obtain ⟨_, rfl, _⟩ := trodAll_nil h
      rfl
    | cons t ts ih =>
      intro vs ds ps h
      obtain ⟨v, vs', d, ds', p, q, rfl, rfl, rfl, h1, h2⟩ := trodAll_cons h
      simp [ih _ _ _ h2]
  have hlen : ds.length = fn.params.size := by simpa using hdl _ _ _ _ hA
  obtain ⟨e1, e2, e3⟩ := hs ds hlen
  have hcalls := (sound hG).2.2 f us ⟨[], []⟩ _ hcall (Sit.start W) args.toList rfl (start_inv W) hrel
  have harr : args.toList.toArray = args := by simp
  rw [harr] at hcalls
  rcases hcalls with ⟨_, hcalls⟩ | ⟨v, w', hr, _⟩
  · refine hcalls.mono ?_
    rintro e w' ⟨c, S', rfl, rfl, hst, hI, hX, hr⟩
    have hc : c = .bool true := hr.bool_inv
    subst hc
    refine ⟨_, rfl, post_of_below (pa := p) (pv := []) hW' ?_ ?_ ?_ (by simp) hI.below (ok_one hrt rfl (okWide_bool_mk htb _))⟩
    · intro b sp hd
      rw [List.append_nil, e1, hrt]
      exact trodAll_mk1 (shut_bool htb true)
    · intro sp hsp
      rw [List.append_nil, e2]
      have hlt := hW'.lt
      exact args_stay hl hI.below fn.params.toList args.toList ds p (fun t ht => ⟨(hts t ht).1, (hts t ht).2.1⟩) (fun x hx => ⟨hlt x (by simp [hx]), hsp x (by simp [hx])⟩) hA
    · intro sp hsp
      rw [List.append_nil, e3, hvars]
      rfl
  · have := hfn args (Sit.start W).w
    rw [hr] at this
    cases this

end
end Go.Proofs.YtboejpobmpfifaaGreatDoor.Eng
