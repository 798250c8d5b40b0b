/-
  Each operation does in the world what the evaluator says: loads, stores, slices, strings. No condition.
-/
import Derived.Test.YtboejpobmpfifaaGreatDoorEng7
namespace Go.Proofs.YtboejpobmpfifaaGreatDoor.Eng
open Go Go.RowKit
set_option linter.unusedSimpArgs false

section
variable {P : Program} {B : Nat} {w0 : World} {S : Sit}

theorem loadAt_ok (hI : Inv B w0 S) {t : TypeId} {n : Option Nat} (hn : aggN P t = some n) {x v : V} {c : Value} (hx : Rel S x c) {s' : St}
    (he : evLoad n x S.st = some (v, s')) :
    s' = S.st ∧ ∃ r, (Instr.loadAt t c).run P S.w = .ok r S.w ∧ Rel S v r := by
  cases x with
  | ptr id off =>
    obtain ⟨rfl, hid⟩ := hx.ptr_inv
    simp only [evLoad] at he
    split at he
    · rename_i ty cs hcs
      simp only [Option.map_eq_some_iff, Prod.mk.injEq] at he
      obtain ⟨u, hu, rfl, rfl⟩ := he
      obtain ⟨cc, hh, hl⟩ := hI.cellsOf hcs
      obtain ⟨r, hr, hrel⟩ := load_ok (P := P) (S := S) (b := S.μ id) (off := off) hn (hl.drop off) (cs := cc.drop off) (fun i c hc => by
        rw [cell_of_heap hh]
        rw [List.getElem?_drop] at hc
        exact hc) hu
      exact ⟨rfl, r, by simp only [Instr.loadAt, Instr.sureAddr, Sem.run_bind, Sem.run_pure, Result.andThen_ok, hr], hrel⟩
    · rename_i ty cs hcs
      simp only [Option.map_eq_some_iff, Prod.mk.injEq] at he
      obtain ⟨u, hu, rfl, rfl⟩ := he
      obtain ⟨cc, rest, hh, hl⟩ := hI.arrOf hcs
      obtain ⟨r, hr, hrel⟩ := load_ok (P := P) (S := S) (b := S.μ id) (off := off) hn (hl.drop off) (cs := cc.drop off) (fun i c hc => by
        rw [cell_of_heap hh]
        rw [List.getElem?_drop] at hc
        rw [List.getElem?_append_left (lt_of_get hc)]
        exact hc) hu
      exact ⟨rfl, r, by simp only [Instr.loadAt, Instr.sureAddr, Sem.run_bind, Sem.run_pure, Result.andThen_ok, hr], hrel⟩
    · cases he
  | ept cs =>
    obtain ⟨b, off, rfl, hc⟩ := hx.ept_inv
    simp only [evLoad, Option.map_eq_some_iff, Prod.mk.injEq] at he
    obtain ⟨u, hu, rfl, rfl⟩ := he
    obtain ⟨cc, h1, h2, _⟩ := hc.values
    obtain ⟨r, hr, hrel⟩ := load_ok (P := P) (S := S) (b := b) (off := off) hn h1 (fun i c hc => (h2 i c hc).1) hu
    exact ⟨rfl, r, by simp only [Instr.loadAt, Instr.sureAddr, Sem.run_bind, Sem.run_pure, Result.andThen_ok, hr], hrel⟩
  | _ => cases he

theorem storeAt_ok (hI : Inv B w0 S) {t : TypeId} {n : Nat} (hn : szOf P t = some n) {p x v : V} {c d : Value} (hp : Rel S p c) (hx : Rel S x d) {s' : St}
    (he : evStore n p x S.st = some (v, s')) :
    v = .tup [] ∧ ∃ S', (Instr.storeAt t c d).run P S.w = .ok () S'.w ∧ S'.st = s' ∧ Inv B w0 S' ∧ Ext S S' := by
  cases p with
  | ptr id off =>
    obtain ⟨rfl, hid⟩ := hp.ptr_inv
    simp only [evStore] at he
    split at he
    · rename_i cs hcs
      split at he
      · rename_i hc
        obtain ⟨h1, h2, h3⟩ := hc
        simp only [Option.some.injEq, Prod.mk.injEq] at he
        obtain ⟨rfl, rfl⟩ := he
        obtain ⟨w', hr, hI', hE'⟩ := store_ok (P := P) hI hcs hn hx h1 h2 h3
        exact ⟨rfl, _, by simp only [Instr.storeAt, Instr.sureAddr, Sem.run_bind, Sem.run_pure, Result.andThen_ok, hr]; rfl, rfl, hI', hE'⟩
      · cases he
    · rename_i cs hcs
      split at he
      · rename_i hc
        obtain ⟨h1, h2, h3⟩ := hc
        simp only [Option.some.injEq, Prod.mk.injEq] at he
        obtain ⟨rfl, rfl⟩ := he
        obtain ⟨w', hr, hI', hE'⟩ := storeArr_ok (P := P) hI hcs hn hx h1 h2 h3
        exact ⟨rfl, _, by simp only [Instr.storeAt, Instr.sureAddr, Sem.run_bind, Sem.run_pure, Result.andThen_ok, hr]; rfl, rfl, hI', hE'⟩
      · cases he
    · cases he
  | _ => cases he

theorem asIntOf_int (k : IntKind) (n : Int) (w : World) : (asIntOf (.int k n)).run P w = .ok (k, n) w := rfl

theorem sliceBound_ok {k : IntKind} {n : Int} {y : Nat} {code : BoundsCode} (h0 : 0 ≤ n) (h1 : n.toNat ≤ y) (w : World) :
    (Instr.sliceBound (.int k n) y code).run P w = .ok n.toNat w := by
  have : 0 ≤ n ∧ n ≤ y := ⟨h0, by omega⟩
  simp [Instr.sliceBound, asIntOf, this]

/-- A bound of a slice expression, in both worlds. -/
def BndOk (S : Sit) (x : Option V) (c : Option Value) : Prop :=
  match x, c with
  | none, none => True
  | some v, some c => Rel S v c
  | _, _ => False

theorem sliceBounds_ok {isSlice : Bool} {len cap : Nat} {lo hi : Option V} {lc hc : Option Value} (hlo : BndOk S lo lc) (hhi : BndOk S hi hc) {l h : Nat}
    (h1 : bnd lo 0 = some l) (h2 : bnd hi len = some h) (hl : l ≤ h) (hh : h ≤ cap) (w : World) :
    (Instr.sliceBounds isSlice len cap lc hc none).run P w = .ok (l, h, cap) w := by
  have a1 : ∀ (x : V) (c : Value) (d l : Nat), Rel S x c → bnd (some x) d = some l → ∃ k n, c = .int k n ∧ 0 ≤ n ∧ n.toNat = l := by
    intro x c d l hx hb
    unfold bnd at hb
    split at hb
    · rename_i he; cases he
    · rename_i k n he
      cases he
      split at hb
      · rename_i h0
        simp at hb
        exact ⟨_, _, hx.int_inv, h0, hb⟩
      · cases hb
    · cases hb
  cases lo with
  | none =>
    cases lc with
    | some _ => exact hlo.elim
    | none =>
      simp [bnd] at h1; subst h1
      cases hi with
      | none =>
        cases hc with
        | some _ => exact hhi.elim
        | none => simp [bnd] at h2; subst h2; simp [Instr.sliceBounds]
      | some hv =>
        cases hc with
        | none => exact hhi.elim
        | some c =>
          obtain ⟨k, n, rfl, h0, rfl⟩ := a1 _ _ _ _ hhi h2
          simp [Instr.sliceBounds, sliceBound_ok (P := P) h0 hh]
  | some lv =>
    cases lc with
    | none => exact hlo.elim
    | some c =>
      obtain ⟨k, n, rfl, h0, rfl⟩ := a1 _ _ _ _ hlo h1
      cases hi with
      | none =>
        cases hc with
        | some _ => exact hhi.elim
        | none => simp [bnd] at h2; subst h2; simp [Instr.sliceBounds, sliceBound_ok (P := P) h0 hl]
      | some hv =>
        cases hc with
        | none => exact hhi.elim
        | some c =>
          obtain ⟨k', n', rfl, h0', rfl⟩ := a1 _ _ _ _ hhi h2
          simp [Instr.sliceBounds, sliceBound_ok (P := P) h0' hh, sliceBound_ok (P := P) h0 hl]

theorem flat_drop {sz : Nat} : ∀ (xs : List V) (l : Nat), (∀ x ∈ xs, x.cells.length = sz) → (xs.flatMap V.cells).drop (l * sz) = (xs.drop l).flatMap V.cells
  | [], l, _ => by simp
  | x :: xs, 0, _ => by simp
  | x :: xs, l + 1, h => by
    simp only [List.flatMap_cons, List.drop_succ_cons]
    rw [show (l + 1) * sz = x.cells.length + l * sz by rw [h x (by simp), Nat.add_mul, Nat.one_mul, Nat.add_comm], ← List.drop_drop, List.drop_left]
    exact flat_drop xs l (fun y hy => h y (by simp [hy]))

theorem flat_take {sz : Nat} : ∀ (xs : List V) (l : Nat), (∀ x ∈ xs, x.cells.length = sz) → (xs.flatMap V.cells).take (l * sz) = (xs.take l).flatMap V.cells
  | [], l, _ => by simp
  | x :: xs, 0, _ => by simp
  | x :: xs, l + 1, h => by
    simp only [List.flatMap_cons, List.take_succ_cons]
    rw [show (l + 1) * sz = x.cells.length + l * sz by rw [h x (by simp), Nat.add_mul, Nat.one_mul, Nat.add_comm], List.take_length_add_append]
    rw [flat_take xs l (fun y hy => h y (by simp [hy]))]

theorem cXo_ok {env : Env} {a : Act} (hE : EnvOk S env a) {x : Option Operand} {y : Option X} (h : cXo x = some y) : BndOk S (y.map (·.ev env)) (x.map a.eval) := by
  cases x with
  | none => simp [cXo] at h; subst h; trivial
  | some x =>
    simp only [cXo, Option.map_eq_some_iff] at h
    obtain ⟨y', hy, rfl⟩ := h
    exact cX_ok hE hy

theorem evSlcS_ok {t : TypeId} {x v : V} {c : Value} (hx : Rel S x c) {lo hi : Option V} {lc hc : Option Value} (hlo : BndOk S lo lc) (hhi : BndOk S hi hc)
    (hu : P.underlying t = some .string) (he : evSlcS x lo hi = some v) : ∃ r, (Instr.sliceAt t c lc hc none).run P S.w = .ok r S.w ∧ Rel S v r := by
  cases x with
  | str s =>
    rw [hx.str_inv]
    simp only [evSlcS] at he
    split at he
    · rename_i l h hb1 hb2
      split at he
      · rename_i hle
        simp at he; subst he
        have hb := sliceBounds_ok (P := P) (isSlice := false) hlo hhi hb1 hb2 hle.1 hle.2 S.w
        have hex : (⟨s.toArray⟩ : ByteArray).extract l h = ⟨((s.take h).drop l).toArray⟩ := by
          rw [ByteArray.extract_mk, List.drop_take]
        have hsize : (⟨s.toArray⟩ : ByteArray).size = s.length := rfl
        exact ⟨.string ⟨((s.take h).drop l).toArray⟩, by simp [Instr.sliceAt, Instr.slice, run_underlying hu, hsize, hb, hex], .str _⟩
      · cases he
    · cases he
  | _ => cases he

theorem fits_eq {sz n : Nat} {xs : List V} (h : fits n xs = true) (hu : ∀ x ∈ xs, x.cells.length = sz) (h0 : xs ≠ []) : n = sz := by
  cases xs with
  | nil => exact absurd rfl h0
  | cons x xs =>
    have := hu x (by simp)
    simp [fits] at h
    omega

theorem evSlc_ok (hI : Inv B w0 S) {t e : TypeId} {n : Nat} {x v : V} {c : Value} (hx : Rel S x c) {lo hi : Option V} {lc hc : Option Value} (hlo : BndOk S lo lc) (hhi : BndOk S hi hc)
    (hu : P.underlying t = some (.slice e)) (hn : szOf P e = some n) (he : evSlc n x lo hi S.st = some v) :
    ∃ r, (Instr.sliceAt t c lc hc none).run P S.w = .ok r S.w ∧ Rel S v r := by
  cases x with
  | msl id z off len =>
    simp only [evSlc] at he
    split at he
    · rename_i l h ty cs hb1 hb2 hob
      split at he
      · rename_i hle
        obtain ⟨rfl, hz0, hl, hfit⟩ := hle
        simp only [Option.some.injEq] at he
        cases hx with
        | msl _ _ _ _ cap t' hi1 hcap hsh =>
          obtain ⟨cc, rest, hh, hrl⟩ := hI.arrOf hob
          have hsz : off + cap * z = cc.length + rest.length := by
            have : S.w.shape? (S.μ id) = some (ty, (cc ++ rest).toArray.size) := by simp only [World.shape?]; rw [hh]
            rw [this] at hsh
            simp only [Option.some.injEq, Prod.mk.injEq] at hsh
            rw [← hsh.2]; simp
          have hcl := hrl.length
          have hch : h ≤ cap := by
            have : h * z ≤ cap * z := by omega
            exact Nat.le_of_mul_le_mul_right this hz0
          · have hb := sliceBounds_ok (P := P) (isSlice := true) hlo hhi hb1 hb2 hl hch S.w
            have hrun : (Instr.sliceAt t (.slice (some ⟨S.μ id, off, none⟩) len cap) lc hc none).run P S.w =
                .ok (.slice (if cap = l then some ⟨S.μ id, off, none⟩ else (some (⟨S.μ id, off, none⟩ : Addr)).map (·.add (l * z))) (h - l) (cap - l)) S.w := by
              simp [Instr.sliceAt, Instr.slice, run_underlying hu, hb, run_sizeOf' hn]
            rw [hrun]
            refine ⟨_, rfl, ?_⟩
            subst he
            by_cases hcase : l = h ∧ l ≠ 0
            · rw [if_pos hcase, show h - l = 0 by omega]
              by_cases hcl2 : cap = l
              · rw [if_pos hcl2, show cap - l = 0 by omega]
                exact .slEmp _
              · rw [if_neg hcl2]
                simp only [Option.map_some, Addr.add_at]
                exact .slAt .no [] _ _ _ z (by simp) (by simp) (.nil _ _) trivial
            · rw [if_neg hcase]
              by_cases hl0 : l = 0
              · subst hl0
                have : (if cap = 0 then some (⟨S.μ id, off, none⟩ : Addr) else (some (⟨S.μ id, off, none⟩ : Addr)).map (·.add (0 * z))) = some ⟨S.μ id, off, none⟩ := by
                  split
                  · rfl
                  · simp [Addr.add]
                rw [this]
                simp only [Nat.zero_mul, Nat.add_zero, Nat.sub_zero]
                exact .msl id z off h cap t' hi1 (by omega) hsh
              · rw [if_neg (by omega)]
                simp only [Option.map_some, Addr.add_at]
                refine .msl id z (off + l * z) (h - l) (cap - l) t' hi1 (by omega) ?_
                rw [hsh]
                have : off + cap * z = off + l * z + (cap - l) * z := by
                  rw [Nat.add_assoc, ← Nat.add_mul, show l + (cap - l) = cap by omega]
                rw [this]
      · cases he
    · cases he
  | sl o xs =>
    simp only [evSlc] at he
    split at he
    · rename_i l h hb1 hb2
      split at he
      · rename_i hle
        obtain ⟨hl, hh, hf⟩ := hle
        simp only [Option.some.injEq] at he
        have hrun : ∀ (a : Option Addr) (cap : Nat), h ≤ cap → (Instr.sliceAt t (.slice a xs.length cap) lc hc none).run P S.w =
            .ok (.slice (if cap = l then a else a.map (·.add (l * n))) (h - l) (cap - l)) S.w := by
          intro a cap hcap
          have hb := sliceBounds_ok (P := P) (isSlice := true) hlo hhi hb1 hb2 hl hcap S.w
          simp [Instr.sliceAt, Instr.slice, run_underlying hu, hb, run_sizeOf' hn]
        have hnil : xs = [] → c = .slice none 0 0 → ∃ r, (Instr.sliceAt t c lc hc none).run P S.w = .ok r S.w ∧ Rel S v r := by
          intro h0 hc'
          subst h0
          have h00 : h = 0 := by simpa using hh
          have l0 : l = 0 := by omega
          subst h00 l0
          have := hrun none 0 (by omega)
          simp only [List.length_nil] at this
          rw [hc', this]
          refine ⟨_, rfl, ?_⟩
          simp at he
          subst he
          simpa [hc'] using hx
        cases hx with
        | slNil => exact hnil rfl rfl
        | slNo => exact hnil rfl rfl
        | slNew a =>
          have h00 : h = 0 := by simpa using hh
          have l0 : l = 0 := by omega
          subst h00 l0
          have := hrun (some a) 0 (by simp)
          simp only [List.length_nil] at this
          rw [this]
          refine ⟨_, rfl, ?_⟩
          simp at he
          subst he
          exact .slNew a
        | slEmp a =>
          have h00 : h = 0 := by simpa using hh
          have l0 : l = 0 := by omega
          subst h00 l0
          have := hrun (some a) 0 (by simp)
          simp only [List.length_nil] at this
          rw [this]
          refine ⟨_, rfl, ?_⟩
          simp at he
          subst he
          exact .slEmp a
        | slBuf i hi => exact hnil rfl rfl
        | slAt o xs b off cap sz h1 h2 h3 h4 =>
          rw [hrun _ _ (by omega)]
          refine ⟨_, rfl, ?_⟩
          by_cases hall : l = 0 ∧ h = xs.length
          · rw [if_pos hall] at he
            subst he
            obtain ⟨rfl, rfl⟩ := hall
            have ha : (if cap = 0 then some (⟨b, off, none⟩ : Addr) else (some (⟨b, off, none⟩ : Addr)).map (·.add (0 * n))) = some ⟨b, off, none⟩ := by
              split
              · rfl
              · simp [Addr.add]
            rw [ha]
            simp only [Nat.sub_zero]
            exact .slAt o xs b off cap sz h1 h2 h3 h4
          · rw [if_neg hall] at he
            subst he
            have h0 : xs ≠ [] := by
              intro q; subst q
              have : h = 0 := by simpa using hh
              exact hall ⟨by omega, by simpa using this⟩
            have hns := fits_eq hf h2 h0
            subst hns
            have hlen : ((xs.take h).drop l).length = h - l := by simp; omega
            have hu' : ∀ x ∈ (xs.take h).drop l, x.cells.length = n := fun x hx => h2 x (List.mem_of_mem_take (List.mem_of_mem_drop hx))
            have hrel : RelC S (((xs.take h).drop l).flatMap V.cells) b (off + l * n) := by
              rw [← flat_drop _ l (fun x hx => h2 x (List.mem_of_mem_take hx)), ← flat_take xs h h2]
              exact (h3.take _).drop _
            rw [← hlen]
            by_cases hcl : cap = l
            · have : (xs.take h).drop l = [] := by
                apply List.eq_nil_of_length_eq_zero
                rw [hlen]; omega
              rw [if_pos hcl, this]
              exact .slAt .no [] b off (cap - l) n (by simp) (by simp) (.nil _ _) trivial
            · rw [if_neg hcl]
              simp only [Option.map_some, Addr.add_at]
              exact .slAt .no _ b (off + l * n) (cap - l) n (by rw [hlen]; omega) hu' hrel trivial
      · cases he
    · cases he
  | _ => cases he

theorem flat_get {sz : Nat} {xs : List V} (hu : ∀ x ∈ xs, x.cells.length = sz) {i : Nat} {x : V} (h : xs[i]? = some x) :
    ((xs.flatMap V.cells).drop (i * sz)).take sz = x.cells := by
  have hi := lt_of_get h
  rw [flat_drop xs i hu]
  have : xs.drop i = x :: xs.drop (i + 1) := by
    rw [List.drop_eq_getElem_cons hi]
    congr 1
    rw [List.getElem?_eq_getElem hi] at h
    exact Option.some.inj h
  rw [this, List.flatMap_cons]
  have hx := hu x (List.mem_of_getElem? h)
  rw [← hx, List.take_left]

theorem indexAt_ok {t e : TypeId} {sz : Nat} (hu : P.underlying t = some (.slice e)) (hn : szOf P e = some sz) {o : Own} {xs : List V} {k : IntKind} {n : Int} {c : Value}
    (hx : Rel S (.sl o xs) c) (h0 : 0 ≤ n) {x : V} (hget : xs[n.toNat]? = some x) (hsz : x.cells.length = sz) :
    ∃ r, (Instr.indexAt t c (.int k n)).run P S.w = .ok r S.w ∧ Rel S (.ept x.cells) r := by
  have hlt := lt_of_get hget
  cases hx with
  | slNil => simp at hlt
  | slNo => simp at hlt
  | slNew a => simp at hlt
  | slEmp a => simp at hlt
  | slBuf i hi => simp at hlt
  | slAt _ _ b off cap sz' h1 h2 h3 h4 =>
    have hs : sz' = sz := by rw [← hsz]; exact (h2 x (List.mem_of_getElem? hget)).symm
    subst hs
    refine ⟨.pointer (some ⟨b, off + n.toNat * sz', none⟩), ?_, .ept _ b _ ?_⟩
    · have hr : 0 ≤ n ∧ n < (xs.length : Int) := ⟨h0, by omega⟩
      simp [Instr.indexAt, asIntOf, run_underlying hu, hr, run_sizeOf' hn, Addr.add_at]
    · rw [← flat_get h2 hget]
      exact (h3.drop _).take _

theorem fieldAddr_ok {t : TypeId} {f : Nat} {q : Nat × Nat} (hf : fieldSz P t f = some q) (hq : q.2 ≠ 0) {c : Value} {b off : Nat} (hc : c = .pointer (some ⟨b, off, none⟩)) :
    (Instr.fieldAt t c f).run P S.w = .ok (.pointer (some ⟨b, off + q.1, none⟩)) S.w := by
  subst hc
  simp only [fieldSz, Option.bind_eq_bind, Option.bind_eq_some_iff, Option.pure_def, Option.some.injEq] at hf
  obtain ⟨fs, hfs, fd, hfd, n, hn, rfl⟩ := hf
  have hu : P.underlying t = some (.struct fs) := by
    unfold fieldsOf at hfs
    split at hfs
    · rename_i fs' h'; simp at hfs; subst hfs; exact h'
    · cases hfs
  have hq' : n ≠ 0 := hq
  simp [Instr.fieldAt, run_underlying hu, hfd, Instr.sureAddr, fieldPlace, run_sizeOf' hn, hq', Addr.add_at]

theorem field_ok {t : TypeId} {f : Nat} {q : Nat × Option Nat} (hf : Eng.fieldAt P t f = some q) {cs : List V} {c : Value} (hx : Rel S (.agg cs) c) {v : V}
    (he : takeN q.2 (cs.drop q.1) = some v) : ∃ r, (Instr.field t c f).run P S.w = .ok r S.w ∧ Rel S v r := by
  obtain ⟨cc, rfl, hl⟩ := hx.agg_inv
  simp only [Eng.fieldAt, Option.bind_eq_bind, Option.bind_eq_some_iff, Option.pure_def, Option.some.injEq] at hf
  obtain ⟨fs, hfs, fd, hfd, n, hn, rfl⟩ := hf
  have hu : P.underlying t = some (.struct fs) := by
    unfold fieldsOf at hfs
    split at hfs
    · rename_i fs' h'; simp at hfs; subst hfs; exact h'
    · cases hfs
  obtain ⟨hagg, hsz⟩ := run_isAgg hn
  have hd := hl.drop fd.offset
  simp only at he
  cases n with
  | none =>
    simp only [takeN] at he
    cases hcs : cs.drop fd.offset with
    | nil => rw [hcs] at he; simp at he
    | cons u us =>
      rw [hcs] at he hd
      simp at he; subst he
      cases hcc : cc.drop fd.offset with
      | nil => rw [hcc] at hd; cases hd
      | cons d ds =>
        rw [hcc] at hd
        cases hd with
        | cons _ _ _ _ hv _ =>
          have hget : cc[fd.offset]? = some d := by
            have := congrArg (fun l => l[0]?) hcc
            simpa [List.getElem?_drop] using this
          refine ⟨d, ?_, hv⟩
          simp [Instr.field, run_underlying hu, hfd, asAgg, part, hagg, hget]
  | some k =>
    simp only [takeN] at he
    split at he
    · simp at he; subst he
      refine ⟨.agg ((cc.drop fd.offset).take k).toArray, ?_, .agg _ _ (hd.take k)⟩
      have hex : cc.toArray.extract fd.offset (fd.offset + k) = ((cc.drop fd.offset).take k).toArray := by
        apply Array.ext'
        simp [List.take_drop]
      simp [Instr.field, run_underlying hu, hfd, asAgg, part, hagg, run_sizeOf' (hsz k rfl), hex]
    · cases he

theorem index_ok {t : TypeId} (hu : P.underlying t = some .string) {s : List UInt8} {k : IntKind} {n : Int} {b : UInt8} (h0 : 0 ≤ n) (hb : s[n.toNat]? = some b) :
    (Instr.index t (.string ⟨s.toArray⟩) (.int k n)).run P S.w = .ok (.int .u8 b.toNat) S.w := by
  have hget : (⟨s.toArray⟩ : ByteArray)[n.toNat]? = some b := by
    have hl := lt_of_get hb
    have : n.toNat < (⟨s.toArray⟩ : ByteArray).size := hl
    rw [getElem?_pos (⟨s.toArray⟩ : ByteArray) n.toNat this]
    rw [List.getElem?_eq_getElem hl] at hb
    exact hb
  simp [Instr.index, asIntOf, run_underlying hu, h0, hget]

end
end Go.Proofs.YtboejpobmpfifaaGreatDoor.Eng
