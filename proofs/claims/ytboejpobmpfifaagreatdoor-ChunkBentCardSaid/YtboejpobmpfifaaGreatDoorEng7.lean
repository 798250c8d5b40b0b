/-
  Each operation does in the world what the evaluator says: structs, slices, strings, maps, iterators. No condition.
-/
import Derived.Test.YtboejpobmpfifaaGreatDoorEng6
import Derived.Laws.RangeString
namespace Go.Proofs.YtboejpobmpfifaaGreatDoor.Eng
open Go Go.RowKit
set_option linter.unusedSimpArgs false

section
variable {P : Program} {B : Nat} {w0 : World} {S : Sit}

mutual
theorem V.plain_one : ∀ v : V, v.plain.one = v.one
  | .fn _ _ _ => rfl
  | .sl _ _ => rfl
  | .agg _ => rfl
  | .tup _ => rfl
  | .ept _ => rfl
  | .ifc _ _ => rfl
  | .junk => rfl | .bool _ => rfl | .int _ _ => rfl | .str _ => rfl | .nilF => rfl | .nilI => rfl | .pnil => rfl | .mnil => rfl
  | .ptr _ _ => rfl | .map _ => rfl | .itr _ => rfl | .dat _ _ => rfl | .slx _ _ _ => rfl | .spp _ _ _ => rfl | .epz _ _ _ _ => rfl | .msl _ _ _ _ => rfl
end
theorem plainL_eq : ∀ l : List V, plainL l = l.map V.plain
  | [] => rfl
  | v :: l => by simp [plainL, plainL_eq l]
theorem plainL_length (l : List V) : (plainL l).length = l.length := by simp [plainL_eq]
theorem V.plain_cells (v : V) : v.plain.cells = plainL v.cells := by cases v <;> rfl
theorem plainL_append (a b : List V) : plainL (a ++ b) = plainL a ++ plainL b := by simp [plainL_eq]
theorem plainL_flat : ∀ xs : List V, (plainL xs).flatMap V.cells = plainL (xs.flatMap V.cells)
  | [] => rfl
  | x :: xs => by simp only [plainL, List.flatMap_cons, plainL_append, plainL_flat xs, V.plain_cells]
theorem plainL_cells {sz : Nat} (xs : List V) (h : ∀ x ∈ xs, x.cells.length = sz) : ∀ x ∈ plainL xs, x.cells.length = sz := by
  intro x hx
  rw [plainL_eq] at hx
  obtain ⟨y, hy, rfl⟩ := List.mem_map.1 hx
  rw [V.plain_cells, plainL_length]
  exact h y hy

/-! ### Struct literals -/
theorem set_fold (u : List Value) : ∀ (k : Nat) (off : Nat) (cs : List Value),
    ((u.zipIdx k).foldl (fun (acc : Array Value) (x : Value × Nat) => acc.setIfInBounds (off + x.2) x.1) cs.toArray).toList =
      (u.zipIdx k).foldl (fun (acc : List Value) (x : Value × Nat) => acc.set (off + x.2) x.1) cs := by
  induction u with
  | nil => intro k off cs; simp
  | cons c u ih =>
    intro k off cs
    simp only [List.zipIdx_cons, List.foldl_cons]
    have : cs.toArray.setIfInBounds (off + k) c = (cs.set (off + k) c).toArray := by simp
    rw [this]
    exact ih (k + 1) off _

theorem putL_fold {vs : List V} {u : List Value} (h : RelL S vs u) : ∀ (k off : Nat) {cs : List V} {cc : List Value}, RelL S cs cc →
    RelL S (putL cs (off + k) vs) ((u.zipIdx k).foldl (fun (acc : List Value) (x : Value × Nat) => acc.set (off + x.2) x.1) cc) := by
  induction vs generalizing u with
  | nil => intro k off cs cc hc; cases h; simpa [putL] using hc
  | cons v vs ih =>
    intro k off cs cc hc
    cases h with
    | cons _ c _ u' hv hl =>
      simp only [List.zipIdx_cons, List.foldl_cons, putL]
      have := ih hl (k + 1) off (hc.set (off + k) hv)
      rwa [show off + (k + 1) = off + k + 1 by omega] at this

/-- The parts of a struct literal, put in place. -/
theorem fill_ok {place : Nat → Option (Nat × Nat)} : ∀ (ps : List (Nat × Nat × V)) (us : List (Nat × Value)) (cs : List V) (cc : List Value) (r : List V),
    us.length = ps.length →
    (∀ (i : Nat) (p : Nat × Nat × V) (u : Nat × Value), ps[i]? = some p → us[i]? = some u → place u.1 = some (p.1, p.2.1) ∧ Rel S p.2.2 u.2) →
    RelL S cs cc → fillL cs ps = some r → ∃ rc : List Value, Instr.fill place cc.toArray us = some rc.toArray ∧ RelL S r rc
  | [], [], cs, cc, r, _, _, hc, h => by simp [fillL] at h; subst h; exact ⟨cc, rfl, hc⟩
  | [], _ :: _, _, _, _, hl, _, _, _ => by simp at hl
  | _ :: _, [], _, _, _, hl, _, _, _ => by simp at hl
  | (off, n, v) :: ps, (i, c) :: us, cs, cc, r, hl, hp, hc, h => by
    simp only [fillL] at h
    split at h
    · rename_i hcond
      obtain ⟨hreal, hlen, hfit⟩ := hcond
      obtain ⟨hpl, hv⟩ := hp 0 (off, n, v) (i, c) rfl rfl
      simp only at hpl hv
      have hvc := hv.cells hreal
      have hsz : c.cells.size = n := by have := hvc.length; simp at this; omega
      have hcs : cc.length = cs.length := hc.length.symm
      have e : (c.cells.zipIdx.foldl (fun (acc : Array Value) (x : Value × Nat) => acc.setIfInBounds (off + x.2) x.1) cc.toArray) =
          ((c.cells.toList.zipIdx 0).foldl (fun (acc : List Value) (x : Value × Nat) => acc.set (off + x.2) x.1) cc).toArray := by
        have h1 := set_fold c.cells.toList 0 off cc
        rw [← Array.foldl_toList]
        apply Array.ext'
        rw [← h1]
        simp
      have hput := putL_fold hvc 0 off hc
      simp only [Nat.add_zero] at hput
      obtain ⟨rc, h1, h2⟩ := fill_ok ps us _ _ r (by simpa using hl) (fun j p u hj hu => hp (j + 1) p u (by simpa using hj) (by simpa using hu)) hput h
      refine ⟨rc, ?_, h2⟩
      simp only [Instr.fill, hpl]
      rw [if_neg (by simp [hsz]; omega), e]
      exact h1
    · cases h

/-! ### Slice literals -/
theorem putL_shift (a : List V) : ∀ (vs b : List V) (k : Nat), putL (a ++ b) (a.length + k) vs = a ++ putL b k vs
  | [], _, _ => rfl
  | v :: vs, b, k => by
    simp only [putL]
    rw [List.set_append_right _ _ (by omega), show a.length + k - a.length = k by omega]
    exact putL_shift a vs _ (k + 1)

theorem putL_head : ∀ (vs a b : List V), vs.length = a.length → putL (a ++ b) 0 vs = vs ++ b
  | [], [], b, _ => rfl
  | [], _ :: _, _, h => by simp at h
  | _ :: _, [], _, h => by simp at h
  | v :: vs, u :: a, b, h => by
    simp only [putL, List.cons_append, List.set_cons_zero]
    have := putL_shift [v] vs (a ++ b) 0
    simp only [List.singleton_append, List.length_cons, List.length_nil, Nat.add_zero, Nat.zero_add] at this
    rw [this, putL_head vs a b (by simpa using h)]

theorem flat_set {sz : Nat} : ∀ (xs : List V) (i : Nat) (v : V), (∀ x ∈ xs, x.cells.length = sz) → v.cells.length = sz → i < xs.length →
    putL (xs.flatMap V.cells) (i * sz) v.cells = (xs.set i v).flatMap V.cells
  | [], _, _, _, _, h => by simp at h
  | x :: xs, 0, v, hu, hv, _ => by
    simp only [List.flatMap_cons, Nat.zero_mul, List.set_cons_zero]
    exact putL_head _ _ _ (by rw [hv, hu x (by simp)])
  | x :: xs, i + 1, v, hu, hv, h => by
    simp only [List.flatMap_cons, List.set_cons_succ]
    have hx := hu x (by simp)
    have := putL_shift x.cells v.cells (xs.flatMap V.cells) (i * sz)
    rw [hx] at this
    rw [show (i + 1) * sz = sz + i * sz by rw [Nat.add_mul, Nat.one_mul, Nat.add_comm], this, flat_set xs i v (fun y hy => hu y (by simp [hy])) hv (by simpa using h)]

theorem flat_length {sz : Nat} : ∀ (xs : List V), (∀ x ∈ xs, x.cells.length = sz) → (xs.flatMap V.cells).length = xs.length * sz
  | [], _ => by simp
  | x :: xs, h => by
    simp only [List.flatMap_cons, List.length_append, List.length_cons]
    rw [h x (by simp), flat_length xs (fun y hy => h y (by simp [hy])), Nat.add_mul, Nat.one_mul, Nat.add_comm]

/-- What a slice literal's elements are: all of the size, and of cells that may be stored. -/
def Elems (sz : Nat) (xs : List V) : Prop := ∀ x ∈ xs, x.cells.length = sz ∧ x.cells.all V.one = true

theorem fillS_ok {sz : Nat} : ∀ (ps : List (Nat × V)) (xs r : List V), Elems sz xs → fillS sz xs ps = some r →
    Elems sz r ∧ r.length = xs.length ∧ fillL (xs.flatMap V.cells) (ps.map fun p => (p.1 * sz, sz, p.2)) = some (r.flatMap V.cells)
  | [], xs, r, hu, h => by simp [fillS] at h; subst h; exact ⟨hu, rfl, rfl⟩
  | (i, v) :: ps, xs, r, hu, h => by
    simp only [fillS] at h
    split at h
    · rename_i hc
      obtain ⟨h1, hv, hi⟩ := hc
      have hu' : Elems sz (xs.set i v) := by
        intro x hx
        rcases List.mem_or_eq_of_mem_set hx with hx | rfl
        · exact hu x hx
        · exact ⟨hv, h1⟩
      obtain ⟨g1, g2, g3⟩ := fillS_ok ps _ r hu' h
      refine ⟨g1, by simpa using g2, ?_⟩
      simp only [List.map_cons, fillL]
      have hfl := flat_length xs (fun x hx => (hu x hx).1)
      have hb : i * sz + sz ≤ (xs.flatMap V.cells).length := by
        rw [hfl]
        calc i * sz + sz = (i + 1) * sz := by rw [Nat.add_mul, Nat.one_mul]
          _ ≤ xs.length * sz := Nat.mul_le_mul_right _ hi
      rw [if_pos ⟨V.real_of_all_one h1, hv, hb⟩, flat_set xs i v (fun x hx => (hu x hx).1) hv hi]
      exact g3
    · cases h

/-! ### A new row that nobody may write -/
def Sit.ro (S : Sit) (O : Obj) : Sit := { S with w := S.w.alloc O }

theorem Ext.ro (h : Inv B w0 S) (O : Obj) : Ext S (S.ro O) where
  hid b q hb := ⟨hb, heap_alloc_lt _ _ _ (h.hid b q hb).2.1⟩
  size := by simp [Sit.ro]
  shape b hb := shape_alloc_lt S.w O b hb
  cell a ha _ := World.cell?_alloc_lt S.w O a ha
  own _ _ ho := ho
  obs := Nat.le_refl _
  bufs := Nat.le_refl _
  mu _ _ := rfl
  buf i m b _ hm := ⟨m, b, hm, .inr (.inl ⟨rfl, rfl, rfl⟩)⟩
  tau _ _ _ _ _ _ := rfl

theorem Inv.ro (h : Inv B w0 S) (O : Obj) : Inv B w0 (S.ro O) where
  hid b q hb := by
    obtain ⟨h1, h2, h3, h4⟩ := h.hid b q hb
    exact ⟨h1, by simp only [Sit.ro, World.size_alloc]; omega, h3, h4⟩
  below := h.below.alloc h.base O
  base := by have := h.base; simp only [Sit.ro, World.size_alloc]; omega
  obj i p hp := by
    have := h.obj i p hp
    exact ⟨this.1, this.2.mono (Ext.ro h O) (heap_alloc_lt _ _ _ this.2.lt)⟩
  inj := h.inj
  injc := h.injc
  buf i hi j h1 h2 := by
    obtain ⟨hb, ⟨c, hc⟩, hf⟩ := h.buf i hi j h1 h2
    have hlt : (S.ρ i).1 < S.w.heap.size := World.block_lt_of_cell? (a := ⟨(S.ρ i).1, j, none⟩) _ hc
    exact ⟨hb, ⟨c, (World.cell?_alloc_lt S.w O ⟨(S.ρ i).1, j, none⟩ hlt).trans hc⟩,
      (World.frozen?_alloc_old S.w O ⟨(S.ρ i).1, j, none⟩ (Nat.ne_of_lt hlt)).trans hf⟩
  froz i hi hr := by
    intro cc e lo hi' hq
    have hlt := h.rho_lt hi hr
    simp only [Sit.ro] at hq hlt
    rw [heap_alloc_lt _ _ _ hlt] at hq
    exact h.froz i hi hr cc e lo hi' hq
  live i hi hr := by
    have := h.live i hi hr
    simp only [Sit.ro, World.size_alloc]
    exact ⟨this.1, by omega⟩
  bufobj := h.bufobj
  bufbuf := h.bufbuf

theorem Inv.own_lt (h : Inv B w0 S) {a : Addr} (ho : S.own a) : a.block < S.w.heap.size := by
  rcases ho with ⟨i, hi, hb⟩ | ⟨i, hi, hb, h1, h2⟩ | hh
  · rw [hb]; exact h.mu_lt hi.1
  · rw [hb]; exact h.rho_lt hi (by omega)
  · obtain ⟨q, hh, _⟩ := hh
    exact (h.hid _ q hh).2.1

theorem mapM_places {l : List Field} {pl : List (Nat × Nat)} (h : l.mapM (fun fd => (szOf P fd.type).map fun n => (fd.offset, n)) = some pl) (w : World) :
    (l.mapM (fun f => do pure (f.offset, ← sizeOf f.type) : Field → Sem (Nat × Nat))).run P w = .ok pl w := by
  induction l generalizing pl with
  | nil => simp at h; subst h; rfl
  | cons f l ih =>
    simp only [List.mapM_cons, Option.bind_eq_bind, Option.bind_eq_some_iff, Option.pure_def, Option.some.injEq, Option.map_eq_some_iff] at h
    obtain ⟨q, ⟨n, hn, rfl⟩, pl', hpl, rfl⟩ := h
    simp only [List.mapM_cons, Sem.run_bind, run_sizeOf' hn, Result.andThen_ok, Sem.run_pure, ih hpl]

theorem build_ok {t : TypeId} {pl : List (Nat × Nat)} (hpl : placesOf P t = some pl) {z : V} (hz : zeroV P t = some z) {parts : Array (Nat × Operand)} {ps : List (Nat × Nat × X)}
    (hps : parts.toList.mapM (cPart pl) = some ps) {env : Env} {a : Act} (hE : EnvOk S env a) {cs : List V}
    (he : fillL z.cells (ps.map fun p => (p.1, p.2.1, p.2.2.ev env)) = some cs) :
    ∃ c, (Instr.build t (parts.map fun (i, x) => (i, a.eval x))).run P S.w = .ok c S.w ∧ Rel S (.agg cs) c := by
  obtain ⟨zc, hzr, hzrel, hzreal⟩ := run_zeroV (S := S) hz
  have hzc := hzrel.cells hzreal
  simp only [placesOf, Option.bind_eq_bind, Option.bind_eq_some_iff] at hpl
  obtain ⟨fs, hfs, hpl⟩ := hpl
  have hu : P.underlying t = some (.struct fs) := by
    unfold fieldsOf at hfs
    split at hfs
    · rename_i fs' h'; simp at hfs; subst hfs; exact h'
    · cases hfs
  have hlen : ∀ (l : List (Nat × Operand)) (ps : List (Nat × Nat × X)), l.mapM (cPart pl) = some ps → ps.length = l.length ∧
      ∀ (i : Nat) (p : Nat × Nat × X) (q : Nat × Operand), ps[i]? = some p → l[i]? = some q → pl.toArray[q.1]? = some (p.1, p.2.1) ∧ Rel S (p.2.2.ev env) (a.eval q.2) := by
    intro l
    induction l with
    | nil => intro ps h; simp at h; subst h; exact ⟨rfl, by simp⟩
    | cons x l ih =>
      intro ps h
      simp only [List.mapM_cons, Option.bind_eq_bind, Option.bind_eq_some_iff, Option.pure_def, Option.some.injEq] at h
      obtain ⟨y, hy, ps', hps', rfl⟩ := h
      obtain ⟨g1, g2⟩ := ih ps' hps'
      refine ⟨by simp [g1], ?_⟩
      intro i p q hp hq
      cases i with
      | zero =>
        simp at hp hq; subst hp hq
        simp only [cPart, Option.bind_eq_bind, Option.bind_eq_some_iff, Option.pure_def, Option.some.injEq] at hy
        obtain ⟨r, hr, x', hx', rfl⟩ := hy
        exact ⟨by simpa using hr, cX_ok hE hx'⟩
      | succ i => exact g2 i p q (by simpa using hp) (by simpa using hq)
  obtain ⟨g1, g2⟩ := hlen _ _ hps
  obtain ⟨rc, h1, h2⟩ := fill_ok (S := S) (place := (pl.toArray[·]?)) (ps.map fun p => (p.1, p.2.1, p.2.2.ev env)) (parts.toList.map fun q => (q.1, a.eval q.2)) z.cells zc.cells.toList cs
    (by simp [g1]) (by
      intro i p u hp hu
      simp only [List.getElem?_map, Option.map_eq_some_iff] at hp hu
      obtain ⟨p', hp', rfl⟩ := hp
      obtain ⟨q', hq', rfl⟩ := hu
      exact g2 i p' q' hp' hq') hzc he
  refine ⟨.agg rc.toArray, ?_, .agg cs rc h2⟩
  have hmap : (fs.mapM (fun f => do pure (f.offset, ← sizeOf f.type) : Field → Sem (Nat × Nat))).run P S.w = .ok pl.toArray S.w := by
    rw [Array.mapM_eq_mapM_toList, Sem.run_map, mapM_places hpl]
    rfl
  unfold Instr.build
  simp only [Sem.run_bind, hzr, Result.andThen_ok, run_underlying hu, hmap]
  have h1' : Instr.fill (fun x => pl.toArray[x]?) zc.cells (parts.map fun x => (x.1, a.eval x.2)).toList = some rc.toArray := by
    simpa using h1
  rw [h1']
  rfl

theorem range_replicate (z : Array Value) (hz : 0 < z.size) : ∀ n, ((Array.range (n * z.size)).map (fun i => z[i % z.size]!)).toList = (List.replicate n z.toList).flatten
  | 0 => by simp
  | n + 1 => by
    have ih := range_replicate z hz n
    simp only [Array.toList_map, Array.toList_range] at ih ⊢
    rw [Nat.add_mul, Nat.one_mul, List.range_add, List.map_append, ih, List.replicate_succ', List.flatten_append]
    congr 1
    simp only [List.map_map, List.flatten_cons, List.flatten_nil, List.append_nil]
    apply List.ext_getElem
    · simp
    · intro j h1 h2
      simp only [List.length_map, List.length_range] at h1
      simp only [List.getElem_map, List.getElem_range, Function.comp_apply]
      rw [Nat.mul_comm, Nat.mul_add_mod, Nat.mod_eq_of_lt h1]
      rw [getElem!_pos z j h1, Array.getElem_toList]

theorem RelL.flatten {vs : List V} {cs : List Value} (h : RelL S vs cs) : ∀ n, RelL S (List.replicate n vs).flatten (List.replicate n cs).flatten
  | 0 => by simpa using RelL.nil
  | n + 1 => by simpa [List.replicate_succ] using h.append (RelL.flatten h n)

theorem flatMap_replicate (n : Nat) (z : V) : (List.replicate n z).flatMap V.cells = (List.replicate n z.cells).flatten := by
  induction n with
  | zero => rfl
  | succ n ih => simp [List.replicate_succ, ih]

mutual
theorem Rel.plain : ∀ {v : V} {c : Value}, Rel S v c → Rel S v.plain c
  | _, _, .junk c => .junk c
  | _, _, .bool b => .bool b
  | _, _, .int k n => .int k n
  | _, _, .str l => .str l
  | _, _, .nilF => .nilF
  | _, _, .nilI => .nilI
  | _, _, .pnil => .pnil
  | _, _, .mnil => .mnil
  | _, _, .fn f xs ys cx cy hx hy => .fn f _ _ cx cy (RelL.plain hx) (RelL.plain hy)
  | _, _, .slNil => .slNo
  | _, _, .slNo => .slNo
  | _, _, .slNew a => .slEmp a
  | _, _, .slEmp a => .slEmp a
  | _, _, .slBuf i hi => .slNo
  | _, _, .slAt o xs b off cap sz h1 h2 h3 h4 => by
    have hl : (plainL xs).length = xs.length := plainL_length xs
    rw [V.plain, ← hl]
    refine .slAt .no (plainL xs) b off cap sz (by omega) (plainL_cells xs h2) ?_ trivial
    rw [plainL_flat]
    exact RelC.plain h3
  | _, _, .msl id sz off len cap t h1 h2 h3 => .msl id sz off len cap t h1 h2 h3
  | _, _, .agg cs cc hl => .agg _ cc (RelL.plain hl)
  | _, _, .tup cs cc hl => .tup _ cc (RelL.plain hl)
  | _, _, .ptr id off hi => .ptr id off hi
  | _, _, .ept cs b off hc => .ept _ b off (RelC.plain hc)
  | _, _, .map id hi => .map id hi
  | _, _, .itr id hi => .itr id hi
  | _, _, .ifc t v c hv => .ifc t _ c (Rel.plain hv)
  | _, _, .dat _ _ _ _ _ _ _ _ _ _ => .junk _
  | _, _, .slx i sz xs b cap m by_ h1 h2 h3 h4 h5 h6 h7 => by
    have hl : (plainL xs).length = xs.length := by rw [plainL_eq]; simp
    have hc : Rel S (.slx i sz (plainL xs)) (.slice (some ⟨b, 0, none⟩) ((plainL xs).length + 1) cap) := by
      refine .slx i sz (plainL xs) b cap m by_ (by rw [hl]; exact h1) h2 ?_ ?_ h5 (by rw [hl]; exact h6) (by rw [hl]; exact h7)
      · intro x hx
        rw [plainL_eq] at hx
        obtain ⟨y, hy, rfl⟩ := List.mem_map.1 hx
        rw [V.plain_cells, plainL_eq, List.length_map]
        exact h3 y hy
      · rw [plainL_flat]
        exact RelC.plain h4
    rw [hl] at hc
    simpa only [V.plain] using hc
  | _, _, .spp _ _ _ _ _ _ _ => .junk _
  | _, _, .epz _ _ _ _ _ _ _ _ _ _ => .junk _
theorem RelL.plain : ∀ {vs : List V} {cs : List Value}, RelL S vs cs → RelL S (plainL vs) cs
  | _, _, .nil => .nil
  | _, _, .cons v c vs cs hv hl => .cons _ c _ cs (Rel.plain hv) (RelL.plain hl)
theorem RelC.plain : ∀ {vs : List V} {b off : Nat}, RelC S vs b off → RelC S (plainL vs) b off
  | _, _, _, .nil b off => .nil b off
  | _, _, _, .cons v c vs b off h1 hc ho hv hl => .cons _ c _ b off (by rw [V.plain_one]; exact h1) hc ho (Rel.plain hv) (RelC.plain hl)
end

theorem cPartS_list {env : Env} {a : Act} (hE : EnvOk S env a) : ∀ (l : List (Nat × Operand)) (ps : List (Nat × X)), l.mapM cPartS = some ps → ps.length = l.length ∧
      ∀ (i : Nat) (p : Nat × X) (q : Nat × Operand), ps[i]? = some p → l[i]? = some q → p.1 = q.1 ∧ Rel S (p.2.ev env) (a.eval q.2) := by
  intro l
  induction l with
  | nil => intro ps h; simp at h; subst h; exact ⟨rfl, by simp⟩
  | cons x l ih =>
    intro ps h
    simp only [List.mapM_cons, Option.bind_eq_bind, Option.bind_eq_some_iff, Option.pure_def, Option.some.injEq] at h
    obtain ⟨y, hy, ps', hps', rfl⟩ := h
    obtain ⟨g1, g2⟩ := ih ps' hps'
    refine ⟨by simp [g1], ?_⟩
    intro i p q hp hq
    cases i with
    | zero =>
      simp at hp hq; subst hp hq
      simp only [cPartS, Option.map_eq_some_iff] at hy
      obtain ⟨x', hx', rfl⟩ := hy
      exact ⟨rfl, cX_ok hE hx'⟩
    | succ i => exact g2 i p q (by simpa using hp) (by simpa using hq)

theorem bsl_ok (hI : Inv B w0 S) {t e : TypeId} {sz bytes len : Nat} (het : elemOf P t = some (e, sz, bytes)) {z : V} (hz : zeroV P e = some z) {parts : Array (Nat × Operand)}
    {ps : List (Nat × X)} (hps : parts.toList.mapM cPartS = some ps) (h0 : 0 < sz) (hbig : len * sz ≤ 2 ^ 24) (hzl : z.cells.length = sz) (hz1 : z.cells.all V.one = true)
    {env : Env} {a : Act} (hE : EnvOk S env a) {xs : List V} (he : fillS sz (List.replicate len z) (ps.map fun p => (p.1, (p.2.ev env).plain)) = some xs) :
    ∃ S' c, (Instr.buildSlice t len (parts.map fun (i, x) => (i, a.eval x))).run P S.w = .ok c S'.w ∧ S'.st = S.st ∧ Inv B w0 S' ∧ Ext S S' ∧ Rel S' (.sl (if len = 0 then .emp else .no) xs) c := by
  obtain ⟨zc, hzr, hzrel, hzreal⟩ := run_zeroV (S := S) hz
  have hzc := hzrel.cells hzreal
  have hu : P.underlying t = some (.slice e) ∧ ∃ i, P.info? e = some i ∧ i.size = sz := by
    unfold elemOf at het
    split at het
    · rename_i e' h'
      simp only [Option.map_eq_some_iff] at het
      obtain ⟨i, hi, h2⟩ := het
      simp only [Prod.mk.injEq] at h2
      obtain ⟨rfl, rfl, rfl⟩ := h2
      exact ⟨h', i, hi, rfl⟩
    · cases het
  obtain ⟨hu, i, hi, hsz⟩ := hu
  have hszr : ∀ w, (sizeOf e).run P w = .ok sz w := fun w => run_sizeOf' (P := P) (by simp [szOf, hi, hsz]) w
  have hzs : zc.cells.size = sz := by have := hzc.length; simp at this; omega
  have hel : Elems sz (List.replicate len z) := by
    intro x hx
    rw [List.eq_of_mem_replicate hx]
    exact ⟨hzl, hz1⟩
  obtain ⟨g1, g2, g3⟩ := fillS_ok _ _ _ hel he
  obtain ⟨k1, k2⟩ := cPartS_list hE _ _ hps
  have hbase : RelL S ((List.replicate len z).flatMap V.cells) ((Array.range (len * zc.cells.size)).map (fun i => zc.cells[i % zc.cells.size]!)).toList := by
    rw [range_replicate _ (by omega), flatMap_replicate]
    exact hzc.flatten len
  obtain ⟨rc, h1, h2⟩ := fill_ok (S := S) (place := fun i => some (i * sz, sz)) ((ps.map fun p => (p.1, (p.2.ev env).plain)).map fun p => (p.1 * sz, sz, p.2))
    (parts.toList.map fun q => (q.1, a.eval q.2)) _ _ _ (by simp [k1]) (by
      intro j p u hp hu'
      simp only [List.getElem?_map, Option.map_eq_some_iff] at hp hu'
      obtain ⟨p', ⟨p'', hp'', rfl⟩, rfl⟩ := hp
      obtain ⟨q', hq', rfl⟩ := hu'
      obtain ⟨m1, m2⟩ := k2 j p'' q' hp'' hq'
      exact ⟨by simp [m1], m2.plain⟩) hbase g3
  have hIr := hI.ro (.cells rc.toArray e)
  have hEr := Ext.ro hI (.cells rc.toArray e)
  have hlenx : xs.length = len := by simpa using g2
  refine ⟨S.ro (.cells rc.toArray e), .slice (some ⟨S.w.heap.size, 0, none⟩) xs.length len, ?_, rfl, hIr, hEr, ?_⟩
  · have hb : ¬ (len * sz > 2 ^ 24) := by omega
    rw [Array.toArray_toList] at h1
    have hparts : (parts.map fun x => (x.1, a.eval x.2)).toList = parts.toList.map fun q => (q.1, a.eval q.2) := by simp
    unfold Instr.buildSlice
    simp only [Sem.run_bind, run_underlying hu, Result.andThen_ok, hszr]
    rw [if_neg hb]
    by_cases hl0 : len * sz = 0
    · have hA : (Array.range (len * sz)).map (fun i => (#[] : Array Value)[i % (#[] : Array Value).size]!) = (Array.range (len * zc.cells.size)).map (fun i => zc.cells[i % zc.cells.size]!) := by
        rw [hzs, hl0]; simp
      rw [if_pos hl0]
      simp only [Sem.run_bind, Sem.run_pure, Result.andThen_ok]
      rw [hA, hparts, h1]
      simp only [Sem.run_bind, newRow, run_newObj, Result.andThen_ok, Sem.run_pure, World.alloc_eq, hlenx, Sit.ro]
    · rw [if_neg hl0]
      simp only [Sem.run_bind, hzr, Sem.run_pure, Result.andThen_ok]
      have hA : (Array.range (len * sz)).map (fun i => zc.cells[i % zc.cells.size]!) = (Array.range (len * zc.cells.size)).map (fun i => zc.cells[i % zc.cells.size]!) := by rw [hzs]
      rw [hA, hparts, h1]
      simp only [Sem.run_bind, newRow, run_newObj, Result.andThen_ok, Sem.run_pure, World.alloc_eq, hlenx, Sit.ro]
  · by_cases hl00 : len = 0
    · have hx0 : xs = [] := List.eq_nil_of_length_eq_zero (by omega)
      subst hx0
      rw [if_pos hl00, hl00]
      exact .slNew _
    rw [if_neg hl00]
    refine .slAt .no xs S.w.heap.size 0 len sz (by omega) (fun x hx => (g1 x hx).1) ?_ trivial
    refine RelC.of (h2.mono hEr) ?_ ?_
    · intro v hv
      obtain ⟨x, hx, hv⟩ := List.mem_flatMap.1 hv
      exact List.all_eq_true.1 (g1 x hx).2 v hv
    · intro j c hc
      refine ⟨?_, fun ho => ?_⟩
      · have := cell_of_heap (w := (S.ro (.cells rc.toArray e)).w) (b := S.w.heap.size) (heap_alloc_new S.w _) j
        rw [Nat.zero_add, this]; exact hc
      · have := hI.own_lt (a := ⟨S.w.heap.size, 0 + j, none⟩) ho
        simp at this

end
end Go.Proofs.YtboejpobmpfifaaGreatDoor.Eng
