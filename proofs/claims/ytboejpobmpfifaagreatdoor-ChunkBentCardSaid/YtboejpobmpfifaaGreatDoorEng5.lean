/-
  Each operation does in the world what the evaluator says (all but append). No condition.
-/
import Derived.Test.YtboejpobmpfifaaGreatDoorEng4
namespace Go.Proofs.YtboejpobmpfifaaGreatDoor.Eng
open Go Go.RowKit
set_option linter.unusedSimpArgs false

def EnvOk (S : Sit) (env : Env) (a : Act) : Prop := ∀ t, Rel S (env t) (a.tmps.getD t undef)

theorem EnvOk.mono {S S' : Sit} (h : Ext S S') {env : Env} {a : Act} (k : EnvOk S env a) : EnvOk S' env a := fun t => (k t).mono h

/-- What an operation comes to. -/
def OpOut (B : Nat) (w0 : World) (S : Sit) (v : V) (s' : St) (r : Result Next) : Prop :=
  ∃ S' nx, r = .ok nx S'.w ∧ S'.st = s' ∧ Inv B w0 S' ∧ Ext S S' ∧ ((∃ c, nx = .value c ∧ Rel S' v c) ∨ (nx = .skip ∧ v = .tup []))

theorem OpOut.pure {B : Nat} {w0 : World} {S : Sit} (hI : Inv B w0 S) {v : V} {c : Value} {r : Result Next} (hr : r = .ok (.value c) S.w) (h : Rel S v c) :
    OpOut B w0 S v S.st r := ⟨S, _, hr, rfl, hI, Ext.refl S, .inl ⟨c, rfl, h⟩⟩

theorem RelL.of_mapM {S : Sit} {d : Nat} (ih : ∀ v u, ofVal d v = some u → Rel S u v) : ∀ (l : List Value) (us : List V), l.mapM (ofVal d) = some us → RelL S us l
  | [], us, h => by simp at h; subst h; exact .nil
  | v :: l, us, h => by
    simp only [List.mapM_cons, Option.bind_eq_bind, Option.bind_eq_some_iff, Option.pure_def, Option.some.injEq] at h
    obtain ⟨u, hu, us', hus, rfl⟩ := h
    exact .cons u v us' l (ih v u hu) (RelL.of_mapM ih l us' hus)

theorem ofVal_ok {S : Sit} : ∀ (d : Nat) (v : Value) (u : V), ofVal d v = some u → Rel S u v
  | 0, v, u, h => by simp [ofVal] at h
  | d + 1, v, u, h => by
    unfold ofVal at h
    split at h
    · simp at h; subst h; exact .bool _
    · simp at h; subst h; exact .int _ _
    · rename_i s; simp at h; subst h; exact .str s.data.toList
    · simp at h; subst h; exact .pnil
    · simp at h; subst h; exact .slNil
    · simp at h; subst h; exact .mnil
    · simp at h; subst h; exact .nilF
    · simp at h; subst h; exact .nilI
    · rename_i cs
      simp only [Option.map_eq_some_iff] at h
      obtain ⟨us, hus, rfl⟩ := h
      have := Rel.agg (S := S) us cs.toList (RelL.of_mapM (fun v u => ofVal_ok d v u) cs.toList us hus)
      simpa using this
    · rename_i cs
      simp only [Option.map_eq_some_iff] at h
      obtain ⟨us, hus, rfl⟩ := h
      have := Rel.tup (S := S) us cs.toList (RelL.of_mapM (fun v u => ofVal_ok d v u) cs.toList us hus)
      simpa using this
    · simp at h

theorem cX_ok {S : Sit} {env : Env} {a : Act} (hE : EnvOk S env a) {x : Operand} {y : X} (h : cX x = some y) : Rel S (y.ev env) (a.eval x) := by
  cases x with
  | tmp t => simp [cX] at h; subst h; exact hE t
  | const v => simp [cX] at h; obtain ⟨u, hu, rfl⟩ := h; exact ofVal_ok 4 v u hu
  | global g => simp [cX] at h
  | func f => simp [cX] at h; subst h; exact .fn (.func f) [] [] [] [] .nil .nil

theorem cX_list {S : Sit} {env : Env} {a : Act} (hE : EnvOk S env a) : ∀ (l : List Operand) (ys : List X), l.mapM cX = some ys → RelL S (ys.map (·.ev env)) (l.map a.eval)
  | [], ys, h => by simp at h; subst h; exact .nil
  | x :: l, ys, h => by
    simp only [List.mapM_cons, Option.bind_eq_bind, Option.bind_eq_some_iff, Option.pure_def, Option.some.injEq] at h
    obtain ⟨y, hy, ys', hys, rfl⟩ := h
    exact .cons _ _ _ _ (cX_ok hE hy) (cX_list hE l ys' hys)

section
variable {P : Program}
theorem run_typeInfo' {t : TypeId} {i : TypeInfo} (h : P.info? t = some i) (w : World) : (typeInfo t).run P w = .ok i w := by simp [typeInfo, h]
theorem run_sizeOf' {t : TypeId} {n : Nat} (h : szOf P t = some n) (w : World) : (sizeOf t).run P w = .ok n w := by
  simp only [szOf, Option.map_eq_some_iff] at h
  obtain ⟨i, hi, rfl⟩ := h
  simp [sizeOf, typeInfo, hi]
theorem run_zeroV {S : Sit} {t : TypeId} {z : V} (h : zeroV P t = some z) : ∃ c, (∀ w, (zeroValue t).run P w = .ok c w) ∧ Rel S z c ∧ z.real = true := by
  simp only [zeroV, Option.bind_eq_some_iff] at h
  obtain ⟨c, ⟨i, hi, hz⟩, hv⟩ := h
  refine ⟨c, fun w => by simp [zeroValue, typeInfo, hi, hz], ofVal_ok 4 c z hv, ?_⟩
  cases z <;> first | rfl | (exfalso; revert hv; unfold ofVal; split <;> simp)
theorem run_isAgg {t : TypeId} {n : Option Nat} (h : aggN P t = some n) : (∀ w, (isAgg t).run P w = .ok n.isSome w) ∧ ∀ k, n = some k → szOf P t = some k := by
  unfold aggN at h
  cases hu : P.underlying t with
  | none => rw [hu] at h; simp at h
  | some d =>
    rw [hu] at h
    have hr : ∀ w, (isAgg t).run P w = .ok (match d with | .struct _ | .array _ _ => true | _ => false) w := by
      intro w
      unfold isAgg
      rw [Sem.run_bind, run_underlying hu w]
      cases d <;> rfl
    cases d <;> simp at h <;> first
      | (obtain ⟨k, hk, rfl⟩ := h; exact ⟨hr, fun k' e => by cases e; exact hk⟩)
      | (subst h; exact ⟨hr, fun k e => by cases e⟩)
end

theorem Addr.add_at (b o j : Nat) : (⟨b, o, none⟩ : Addr).add j = ⟨b, o + j, none⟩ := by unfold Addr.add; split <;> simp_all

/-- A load, out of cells that stand there. -/
theorem load_ok {P : Program} {S : Sit} {t : TypeId} {n : Option Nat} (hn : aggN P t = some n) {b off : Nat} {vs : List V} {cs : List Value}
    (hv : RelL S vs cs) (hc : ∀ i c, cs[i]? = some c → S.w.cell? ⟨b, off + i, none⟩ = some c) {v : V} (ht : takeN n vs = some v) :
    ∃ c, (loadVar t ⟨b, off, none⟩).run P S.w = .ok c S.w ∧ Rel S v c := by
  obtain ⟨hagg, hsz⟩ := run_isAgg hn
  cases n with
  | none =>
    simp only [takeN] at ht
    cases hv with
    | nil => simp at ht
    | cons u c us cs' hu hl =>
      simp at ht; subst ht
      have h0 := hc 0 c rfl
      simp only [Nat.add_zero] at h0
      refine ⟨c, ?_, hu⟩
      unfold loadVar
      rw [Sem.run_bind, hagg]
      simp [run_load, h0]
  | some k =>
    simp only [takeN] at ht
    split at ht
    · rename_i hk
      simp at ht; subst ht
      have hlen : (cs.take k).length = k := by rw [List.length_take, ← hv.length]; omega
      have hl : (loadCells ⟨b, off, none⟩ k).run P S.w = .ok (cs.take k).toArray S.w := by
        have := run_loadCells_list (P := P) S.w ⟨b, off, none⟩ (cs.take k) (fun j u hu => by
          rw [Addr.add_at]
          rw [List.getElem?_take] at hu
          split at hu
          · exact hc j u hu
          · cases hu)
        rw [hlen] at this; exact this
      refine ⟨.agg (cs.take k).toArray, ?_, .agg _ _ (hv.take k)⟩
      unfold loadVar
      rw [Sem.run_bind, hagg]
      simp [run_sizeOf' (hsz k rfl), hl]
    · cases ht

theorem RelO.cells {S : Sit} {e : TypeId} {cs : List V} {b : Nat} (h : RelO S (.cells e cs) b) :
    ∃ cc, S.w.heap[b]? = some (.cells (List.toArray cc) e (0, 0)) ∧ RelL S cs cc := h

theorem cell_of_heap {w : World} {b : Nat} {cc : List Value} {e : TypeId} {fr : Nat × Nat} (h : w.heap[b]? = some (.cells cc.toArray e fr)) (i : Nat) :
    w.cell? ⟨b, i, none⟩ = cc[i]? := by simp [World.cell?, h]

/-- A pointer's object, in the world. -/
theorem Inv.cellsOf {B : Nat} {w0 : World} {S : Sit} (h : Inv B w0 S) {id : Nat} {e : TypeId} {cs : List V} (hid : S.st.obs[id]? = some (.cells e cs)) :
    ∃ cc, S.w.heap[S.μ id]? = some (.cells (List.toArray cc) e (0, 0)) ∧ RelL S cs cc := (h.obj id _ hid).2

theorem lt_of_get {α : Type _} {l : List α} {i : Nat} {x : α} (h : l[i]? = some x) : i < l.length := by
  rcases Nat.lt_or_ge i l.length with q | q
  · exact q
  · rw [List.getElem?_eq_none q] at h; cases h

theorem putL_rel {S : Sit} : ∀ {vs : List V} {us : List Value} {cs : List V} {cc : List Value} (off : Nat), RelL S vs us → RelL S cs cc →
    off + vs.length ≤ cs.length → RelL S (putL cs off vs) (cc.take off ++ us ++ cc.drop (off + us.length))
  | _, _, cs, cc, off, .nil, hc, _ => by simpa [putL] using hc
  | _, _, cs, cc, off, .cons v c vs us hv hl, hc, hlen => by
    simp only [List.length_cons] at hlen
    have ih := putL_rel (off + 1) hl (hc.set off hv) (by simp; omega)
    have hoff : off < cc.length := by rw [← hc.length]; omega
    have e : cc.take off ++ (c :: us) ++ cc.drop (off + (c :: us).length) =
        (cc.set off c).take (off + 1) ++ us ++ (cc.set off c).drop (off + 1 + us.length) := by
      have h1 : (cc.set off c).take (off + 1) = cc.take off ++ [c] := by
        rw [List.set_eq_take_append_cons_drop, if_pos hoff, List.take_append]
        have hl : (cc.take off).length = off := by simp; omega
        rw [hl, List.take_of_length_le (by omega), show off + 1 - off = 1 by omega]
        rfl
      have h2 : (cc.set off c).drop (off + 1 + us.length) = cc.drop (off + 1 + us.length) := by
        rw [List.drop_set]; simp [show off < off + 1 + us.length by omega]
      rw [h1, h2]
      simp only [List.length_cons, List.append_assoc, List.cons_append, List.nil_append]
      rw [show off + 1 + us.length = off + (us.length + 1) by omega]
    rw [e]
    exact ih

theorem putL_length : ∀ (vs cs : List V) (off : Nat), (putL cs off vs).length = cs.length
  | [], cs, off => rfl
  | v :: vs, cs, off => by simp [putL, putL_length vs]

theorem mu_turn {S : Sit} (id : Nat) (o : AObj) (w : World) : (S.turn id o w).μ = S.μ := rfl

/-- An object of cells, written anew. -/
theorem store_ok {P : Program} {B : Nat} {w0 : World} {S : Sit} (hI : Inv B w0 S) {id : Nat} {e : TypeId} {cs : List V} (hid : S.st.obs[id]? = some (.cells e cs))
    {t : TypeId} {n : Nat} (hn : szOf P t = some n) {off : Nat} {x : V} {c : Value} (hx : Rel S x c) (hxl : x.cells.length = n) (ho : off + n ≤ cs.length)
    (h1 : x.cells.all V.one = true) :
    ∃ w', (storeVar t ⟨S.μ id, off, none⟩ c).run P S.w = .ok () w' ∧
      Inv B w0 (S.turn id (.cells e (putL cs off x.cells)) w') ∧ Ext S (S.turn id (.cells e (putL cs off x.cells)) w') := by
  obtain ⟨cc, hh, hl⟩ := hI.cellsOf hid
  have hidl := lt_of_get hid
  have hcs := hx.cells (V.real_of_all_one h1)
  have hsz : c.cells.toList.length = n := by rw [← hcs.length]; exact hxl
  have hone := hcs.ones h1
  have hst := run_storeCells_at (P := P) (S.μ id) off e c.cells.toList 0 cc.toArray S.w hh (by simp at hsz ⊢; rw [hsz, ← hl.length]; omega) hone
  simp only [Nat.add_zero, List.toList_toArray] at hst
  have hheap : (S.w.setRow (S.μ id) (cc.take off ++ c.cells.toList ++ cc.drop (off + c.cells.toList.length)).toArray).heap[S.μ id]? =
      some (.cells (cc.take off ++ c.cells.toList ++ cc.drop (off + c.cells.toList.length)).toArray e (0, 0)) := setRow_heap S.w _ _ _ e _ hh
  have htn : Turns S.w (S.w.setRow (S.μ id) (cc.take off ++ c.cells.toList ++ cc.drop (off + c.cells.toList.length)).toArray) (S.μ id) := by
    refine ⟨rfl, rfl, rfl, ?_, ?_, ?_⟩
    · simp [World.setRow]
    · intro k hk
      simp [World.setRow, Array.getElem?_modify, Ne.symm hk]
    · have hlen : (cc.take off ++ c.cells.toList ++ cc.drop (off + c.cells.toList.length)).length = cc.length := by
        have h1 := hl.length
        simp only [List.length_append, List.length_take, List.length_drop]
        omega
      simp only [World.shape?]
      rw [hheap, hh]
      simp only [List.size_toArray, hlen]
  have hE := Ext.turn hI hidl (by rw [hid]; simp) htn (.cells e (putL cs off x.cells))
  refine ⟨_, ?_, hI.turn hidl (by rw [hid]; simp) htn ⟨_, hheap, ?_⟩ (fun _ _ _ => ⟨_, _, hid⟩), hE⟩
  · unfold storeVar
    rw [Sem.run_bind, run_sizeOf' hn]
    have hcz : c.cells.size = n := by simpa using hsz
    simp only [Result.andThen_ok, hcz, ne_eq, not_true, if_false]
    simpa using hst
  · have := putL_rel off hcs hl (by rw [hxl]; exact ho)
    exact this.mono hE

/-- Cells of an array that may be written, written anew. -/
theorem arr_turn {B : Nat} {w0 : World} {S : Sit} (hI : Inv B w0 S) {id : Nat} {e : TypeId} {cs : List V} (hid : S.st.obs[id]? = some (.arr e cs))
    {vs : List V} {us : List Value} (hv : RelL S vs us) {off : Nat} (ho : off + vs.length ≤ cs.length) (hone : ∀ u ∈ us, u.oneCell' = true) :
    ∃ w', (∀ P : Program, (storeCells ⟨S.μ id, off, none⟩ us).run P S.w = .ok () w') ∧ Turns S.w w' (S.μ id) ∧
      Inv B w0 (S.turn id (.arr e (putL cs off vs)) w') ∧ Ext S (S.turn id (.arr e (putL cs off vs)) w') := by
  obtain ⟨cc, rest, hh, hl⟩ := (hI.obj id _ hid).2
  have hidl := lt_of_get hid
  have hul : us.length = vs.length := hv.length.symm
  have hcl := hl.length
  have hst := fun P : Program => run_storeCells_at (P := P) (S.μ id) off e us 0 (cc ++ rest).toArray S.w hh (by simp; omega) hone
  simp only [Nat.add_zero, List.toList_toArray] at hst
  have hlist : (cc ++ rest).take off ++ us ++ (cc ++ rest).drop (off + us.length) = (cc.take off ++ us ++ cc.drop (off + us.length)) ++ rest := by
    rw [List.take_append_of_le_length (by omega), List.drop_append_of_le_length (by omega)]
    simp
  rw [hlist] at hst
  have hheap : (S.w.setRow (S.μ id) ((cc.take off ++ us ++ cc.drop (off + us.length)) ++ rest).toArray).heap[S.μ id]? =
      some (.cells ((cc.take off ++ us ++ cc.drop (off + us.length)) ++ rest).toArray e (0, 0)) := setRow_heap S.w _ _ _ e _ hh
  have htn : Turns S.w (S.w.setRow (S.μ id) ((cc.take off ++ us ++ cc.drop (off + us.length)) ++ rest).toArray) (S.μ id) := by
    refine ⟨rfl, rfl, rfl, ?_, ?_, ?_⟩
    · simp [World.setRow]
    · intro k hk
      simp [World.setRow, Array.getElem?_modify, Ne.symm hk]
    · simp only [World.shape?]
      rw [hheap, hh]
      simp only [List.size_toArray, List.length_append, List.length_take, List.length_drop]
      congr 2
      omega
  have hE := Ext.turn hI hidl (by rw [hid]; simp) htn (.arr e (putL cs off vs))
  refine ⟨_, fun P => by simpa using hst P, htn, hI.turn hidl (by rw [hid]; simp) htn ⟨_, rest, hheap, ?_⟩ (fun _ _ q => by cases q), hE⟩
  exact (putL_rel off hv hl ho).mono hE

theorem storeArr_ok {P : Program} {B : Nat} {w0 : World} {S : Sit} (hI : Inv B w0 S) {id : Nat} {e : TypeId} {cs : List V} (hid : S.st.obs[id]? = some (.arr e cs))
    {t : TypeId} {n : Nat} (hn : szOf P t = some n) {off : Nat} {x : V} {c : Value} (hx : Rel S x c) (hxl : x.cells.length = n) (ho : off + n ≤ cs.length)
    (h1 : x.cells.all V.one = true) :
    ∃ w', (storeVar t ⟨S.μ id, off, none⟩ c).run P S.w = .ok () w' ∧
      Inv B w0 (S.turn id (.arr e (putL cs off x.cells)) w') ∧ Ext S (S.turn id (.arr e (putL cs off x.cells)) w') := by
  have hcs := hx.cells (V.real_of_all_one h1)
  have hsz : c.cells.toList.length = n := by rw [← hcs.length]; exact hxl
  obtain ⟨w', hr, _, hI', hE⟩ := arr_turn hI hid hcs (off := off) (by rw [hxl]; exact ho) (hcs.ones h1)
  refine ⟨w', ?_, hI', hE⟩
  unfold storeVar
  rw [Sem.run_bind, run_sizeOf' hn]
  have hcz : c.cells.size = n := by simpa using hsz
  simp only [Result.andThen_ok, hcz, ne_eq, not_true, if_false]
  exact hr P

theorem Inv.arrOf {B : Nat} {w0 : World} {S : Sit} (h : Inv B w0 S) {id : Nat} {e : TypeId} {cs : List V} (hid : S.st.obs[id]? = some (.arr e cs)) :
    ∃ cc rest, S.w.heap[S.μ id]? = some (.cells (List.toArray (cc ++ rest)) e (0, 0)) ∧ RelL S cs cc := (h.obj id _ hid).2

end Go.Proofs.YtboejpobmpfifaaGreatDoor.Eng
