/-
  Texts of bytes, and what goes by unsafe.Pointer: in the world what the evaluator says. No condition.
-/
import Derived.Test.YtboejpobmpfifaaGreatDoorEngA
import Derived.Lib.UnsafeStr
import Derived.Lib.Builder
import Derived.Laws.BytesArg
import Derived.Laws.Runes
import Derived.Laws.LoneSync
namespace Go.Proofs.YtboejpobmpfifaaGreatDoor.Eng
open Go Go.RowKit
set_option linter.unusedSimpArgs false

section
variable {P : Program} {B : Nat} {w0 : World} {S : Sit}

theorem freeze_other (w : World) (b n k : Nat) (h : k ≠ b) : (w.freeze ⟨b, 0, none⟩ n).heap[k]? = w.heap[k]? := by
  unfold World.freeze
  split
  · rfl
  · simp only [Array.getElem?_modify]
    rw [if_neg (fun q => h q.symm)]

theorem freeze_size (w : World) (b n : Nat) : (w.freeze ⟨b, 0, none⟩ n).heap.size = w.heap.size := by
  unfold World.freeze
  split <;> simp

theorem freeze_cells (w : World) (b n k : Nat) : (∀ c e f, w.heap[k]? = some (.cells c e f) → ∃ f', (w.freeze ⟨b, 0, none⟩ n).heap[k]? = some (.cells c e f')) ∧
    ((∀ c e f, w.heap[k]? ≠ some (.cells c e f)) → (w.freeze ⟨b, 0, none⟩ n).heap[k]? = w.heap[k]?) := by
  by_cases e : k = b
  · subst e
    unfold World.freeze
    split
    · exact ⟨fun c e f h => ⟨f, h⟩, fun _ => rfl⟩
    · simp only [Array.getElem?_modify, if_true]
      refine ⟨fun c e f h => ?_, fun h => ?_⟩
      · rw [h]
        obtain ⟨lo, hi⟩ := f
        exact ⟨_, rfl⟩
      · cases hq : w.heap[k]? with
        | none => rfl
        | some O =>
          cases O with
          | cells c e f => exact absurd hq (h c e f)
          | _ => rfl
  · rw [freeze_other w b n k e]
    exact ⟨fun c e f h => ⟨f, h⟩, fun _ => rfl⟩

theorem freeze_cell (w : World) (b n : Nat) (a : Addr) : (w.freeze ⟨b, 0, none⟩ n).cell? a = w.cell? a := by
  obtain ⟨h1, h2⟩ := freeze_cells w b n a.block
  by_cases hc : ∃ c e f, w.heap[a.block]? = some (.cells c e f)
  · obtain ⟨c, e, f, hq⟩ := hc
    obtain ⟨f', hf⟩ := h1 c e f hq
    simp only [World.cell?, hq, hf]
  · exact World.cell?_of_block (h2 (fun c e f q => hc ⟨c, e, f, q⟩))

theorem freeze_shape (w : World) (b n k : Nat) : (w.freeze ⟨b, 0, none⟩ n).shape? k = w.shape? k := by
  obtain ⟨h1, h2⟩ := freeze_cells w b n k
  by_cases hc : ∃ c e f, w.heap[k]? = some (.cells c e f)
  · obtain ⟨c, e, f, hq⟩ := hc
    obtain ⟨f', hf⟩ := h1 c e f hq
    simp only [World.shape?, hq, hf]
  · simp only [World.shape?, h2 (fun c e f q => hc ⟨c, e, f, q⟩)]

theorem freeze_froz {w : World} {b n st : Nat} (h : Froz w b st) (hn : n ≤ st) : Froz (w.freeze ⟨b, 0, none⟩ n) b st := by
  intro cc e lo hi hq
  unfold World.freeze at hq
  split at hq
  · exact h cc e lo hi hq
  · simp only [Array.getElem?_modify, if_true] at hq
    cases hw : w.heap[b]? with
    | none => rw [hw] at hq; simp at hq
    | some O =>
      rw [hw] at hq
      cases O with
      | cells c' e' f' =>
        obtain ⟨lo', hi'⟩ := f'
        obtain ⟨g1, g2⟩ := h _ _ _ _ hw
        simp only [Option.map_some, Option.some.injEq, Obj.cells.injEq] at hq
        obtain ⟨_, _, hq⟩ := hq
        split at hq
        · simp only [Prod.mk.injEq] at hq
          omega
        · rename_i hne
          simp only [Prod.mk.injEq] at hq
          have : ¬ lo' = hi' := by simpa using hne
          obtain ⟨rfl, rfl⟩ := hq
          omega
      | _ => simp at hq

theorem frozen_of_froz {w : World} {b st k : Nat} (h : Froz w b st) (hk : st ≤ k) : w.frozen? ⟨b, k, none⟩ = false := by
  simp only [World.frozen?]
  split
  · rename_i c e lo hi hq
    obtain ⟨g1, g2⟩ := h _ _ _ _ hq
    simp only [Bool.and_eq_false_iff, decide_eq_false_iff_not]
    omega
  · rfl

def Sit.frz (S : Sit) (b n : Nat) : Sit := { S with w := S.w.freeze ⟨b, 0, none⟩ n }

theorem Ext.frz (S : Sit) (b n : Nat) (hh : ∀ k q, S.hid k q → k ≠ b) : Ext S (S.frz b n) where
  hid k q hk := ⟨hk, freeze_other S.w b n k (hh k q hk)⟩
  size := by simp only [Sit.frz, freeze_size]; exact Nat.le_refl _
  shape k _ := freeze_shape S.w b n k
  cell a _ _ := freeze_cell S.w b n a
  own _ _ h := h
  obs := Nat.le_refl _
  bufs := Nat.le_refl _
  mu _ _ := rfl
  buf i m q _ hm := ⟨m, q, hm, .inr (.inl ⟨rfl, rfl, rfl⟩)⟩
  tau _ _ _ _ _ _ := rfl

theorem Inv.frz (h : Inv B w0 S) {i m : Nat} {q : Nat × TypeId} (hi : S.st.bufs[i]? = some (m, q)) (hm : 0 < m) {b n : Nat} (hb : (S.ρ i).1 = b) (hn : n ≤ (S.ρ i).2.1) : Inv B w0 (S.frz b n) := by
  have hlive : S.live i := .inr ⟨m, q, hi, hm⟩
  have hil := lt_of_get hi
  have hB := h.live i hil hlive
  have hother : ∀ j, j < S.st.bufs.length → j ≠ i → S.live j → (S.ρ j).1 ≠ b := fun j hj hji hl => by
    rw [← hb]; exact h.bufbuf j i hj hil hji hl hlive
  have hh : ∀ k q, S.hid k q → k ≠ b := fun k q hk e => (h.hid k q hk).2.2.2 i hil hlive (hb.trans e.symm)
  constructor
  · exact Lib.below_freeze h.below (by rw [← hb]; exact hB.1) n
  · have := h.base; simp only [Sit.frz, freeze_size]; exact this
  · intro k o ho
    have := h.obj k o ho
    have hne : S.μ k ≠ b := fun e => h.bufobj i k hil (lt_of_get ho) hlive (hb.trans e.symm)
    exact ⟨this.1, this.2.mono (Ext.frz S b n hh) (freeze_other S.w b n _ hne)⟩
  · exact h.inj
  · intro j hj k h1 h2
    obtain ⟨g0, ⟨c, g1⟩, g2⟩ := h.buf j hj k h1 h2
    refine ⟨g0, ⟨c, (freeze_cell S.w b n _).trans g1⟩, ?_⟩
    have hlj : (S.ρ j).2.1 < (S.ρ j).2.2 := Nat.lt_of_le_of_lt h1 h2
    by_cases e : j = i
    · subst e
      have := freeze_froz (h.froz j hj hlj) (b := (S.ρ j).1) hn
      show (S.w.freeze ⟨b, 0, none⟩ n).frozen? ⟨(S.ρ j).1, k, none⟩ = false
      rw [← hb]
      exact frozen_of_froz this h1
    · have := freeze_other S.w b n _ (hother j hj e (.inl hlj))
      exact (World.frozen?_of_block (w := S.w) (a := ⟨(S.ρ j).1, k, none⟩) this).trans g2
  · intro j hj hlj
    by_cases e : j = i
    · subst e
      have := freeze_froz (h.froz j hj hlj) (b := (S.ρ j).1) hn
      show Froz (S.w.freeze ⟨b, 0, none⟩ n) (S.ρ j).1 (S.ρ j).2.1
      rw [← hb]
      exact this
    · exact (h.froz j hj hlj).of_block (freeze_other S.w b n _ (hother j hj e (.inl hlj)))
  · intro j hj hl
    have := h.live j hj hl
    simp only [Sit.frz, freeze_size]
    exact this
  · exact fun j k hj hk hl => h.bufobj j k hj hk hl
  · exact fun j k hj hk hne h1 h2 => h.bufbuf j k hj hk hne h1 h2
  · intro k q hk
    obtain ⟨h1, h2, h3, h4⟩ := h.hid k q hk
    exact ⟨h1, by simp only [Sit.frz, freeze_size]; exact h2, h3, h4⟩
  · exact h.injc

theorem map_pair' {α : Type _} {x : Option α} {f : α → V} {s s' : St} {v : V} (h : (x.map fun u => (f u, s)) = some (v, s')) : ∃ u, x = some u ∧ f u = v ∧ s' = s := by
  simp only [Option.map_eq_some_iff, Prod.mk.injEq] at h
  obtain ⟨u, hu, h1, h2⟩ := h
  exact ⟨u, hu, h1, h2.symm⟩

/-- Bytes, of what stands there. -/
theorem bytes_cells {S : Sit} : ∀ {xs : List V} {bs : List UInt8} {cs : List Value}, bytesOf xs = some bs → RelL S (xs.flatMap V.cells) cs →
    bs.length = xs.length ∧ cs = bs.map (fun b => Value.int .u8 b.toNat) ∧ ∀ x ∈ xs, x.cells.length = 1
  | [], bs, cs, h, hl => by
    simp only [bytesOf, Option.some.injEq] at h
    subst h
    cases hl
    exact ⟨rfl, rfl, by simp⟩
  | x :: xs, bs, cs, h, hl => by
    unfold bytesOf at h
    split at h
    · cases ‹_ :: _ = []›
    · rename_i n ys heq
      cases heq
      split at h
      · rename_i hn
        simp only [Option.map_eq_some_iff] at h
        obtain ⟨bs', hbs, rfl⟩ := h
        simp only [List.flatMap_cons, V.cells, List.cons_append, List.nil_append] at hl
        cases hl with
        | cons _ c _ cs' hv hl' =>
          obtain ⟨g1, g2, g3⟩ := bytes_cells hbs hl'
          refine ⟨by simp [g1], ?_, ?_⟩
          · rw [hv.int_inv, g2]
            have : ((UInt8.ofNat n.toNat).toNat : Int) = n := by
              rw [UInt8.toNat_ofNat']
              omega
            simp only [List.map_cons, this]
          · intro y hy
            rcases List.mem_cons.1 hy with rfl | hy
            · rfl
            · exact g3 y hy
      · cases h
    · cases h

/-- A text of bytes. -/
theorem b2s_ok {src dst e : TypeId} (hs : P.underlying src = some (.slice e)) (he : P.underlying e = some (.int .u8)) (hd : P.underlying dst = some .string) {o : Own} {xs : List V} {c : Value} (hx : Rel S (.sl o xs) c)
    {bs : List UInt8} (hb : bytesOf xs = some bs) : (convert src dst c).run P S.w = .ok (.string ⟨bs.toArray⟩) S.w := by
  have hnil : xs = [] → c = .slice none 0 0 → (convert src dst c).run P S.w = .ok (.string ⟨bs.toArray⟩) S.w := by
    rintro rfl rfl
    simp only [bytesOf, Option.some.injEq] at hb
    subst hb
    exact run_convert_bytes_nil S.w src e hs he 0 0 dst hd
  cases hx with
  | slNil => exact hnil rfl rfl
  | slNo => exact hnil rfl rfl
  | slNew a =>
    simp only [bytesOf, Option.some.injEq] at hb
    subst hb
    rw [run_convert_bytes_string S.w src dst e (some a) 0 0 hs he hd, run_bytesToString S.w a 0 0 [] (by simpa using run_loadCells_list (P := P) S.w a [] (by simp))]
    rfl
  | slEmp a =>
    simp only [bytesOf, Option.some.injEq] at hb
    subst hb
    rw [run_convert_bytes_string S.w src dst e (some a) 0 0 hs he hd, run_bytesToString S.w a 0 0 [] (by simpa using run_loadCells_list (P := P) S.w a [] (by simp))]
    rfl
  | slBuf i hi => exact hnil rfl rfl
  | slAt _ _ b off cap sz h1 h2 h3 h4 =>
    obtain ⟨cs, g1, g2, g3⟩ := h3.values
    obtain ⟨k1, k2, k3⟩ := bytes_cells hb g1
    have := run_convert_bytes_arg (P := P) S.w src e hs he b off xs.length cap (bs.map fun b => (b.toNat : Int)) (by simp [k1]) (fun i hi => by
      have hib : i < bs.length := by omega
      have : cs[i]? = some (.int .u8 (bs[i].toNat)) := by rw [k2]; simp [hib]
      rw [(g2 i _ this).1]
      simp [List.getD, hib]) dst hd
    rw [this]
    congr 2
    simp [strOfNums, Function.comp_def]

/-- Where the elements stand. -/
theorem sdata_ok {ts : Array TypeId} {ty : TypeId} {x v : V} {c : Value} (hx : Rel S x c) {s' : St} {e : Env} {y : X} (hy : y.ev e = x) (he : evOp (.sdata y) e S.st = some (v, s')) :
    s' = S.st ∧ ∃ r, (Builtin.unsafeSliceData_ ts ty #[c]).run P S.w = .ok r S.w ∧ Rel S v r := by
  simp only [evOp, hy] at he
  split at he
  · simp only [Option.some.injEq, Prod.mk.injEq] at he
    obtain ⟨rfl, rfl⟩ := he
    cases hx with
    | slNil => exact ⟨rfl, _, Lib.run_unsafeSliceData_nil S.w ts ty 0 0, .pnil⟩
    | slAt _ _ _ _ _ _ _ _ _ h4 => exact h4.elim
  · rename_i _ i xs
    split at he
    · rename_i hb
      simp only [Option.some.injEq, Prod.mk.injEq] at he
      obtain ⟨rfl, rfl⟩ := he
      refine ⟨rfl, ?_⟩
      cases hx with
      | slBuf _ hi =>
        exact ⟨_, Lib.run_unsafeSliceData_nil S.w ts ty 0 0, by simpa using Rel.pnil⟩
      | slAt _ _ b off cap sz h1 h2 h3 h4 =>
        have h4' := h4
        obtain ⟨m, q, hm, hn, hk⟩ := h4
        rw [hm] at hb
        simp only [Option.map_some, Option.some.injEq, Prod.mk.injEq, decide_eq_true_eq] at hb
        obtain ⟨hb, hfl⟩ := hb
        obtain ⟨hpos, _⟩ := hk hb hfl
        have hne : xs.length ≠ 0 := by omega
        rw [if_neg hne]
        exact ⟨_, Lib.run_unsafeSliceData_row S.w ts ty ⟨b, off, none⟩ xs.length cap (by omega), .dat i xs b off cap sz h1 h2 h3 h4'⟩
    · cases he
  · cases he

/-- A text of bytes that stand there. -/
theorem ustr_ok (hI : Inv B w0 S) {pt it ty e : TypeId} (hp : P.underlying pt = some (.pointer e)) (hc1 : P.cellsOf e = 1) {x n v : V} {c d : Value} (hx : Rel S x c) (hn : Rel S n d) {s' : St} {env : Env} {y z : X}
    (hy : y.ev env = x) (hz : z.ev env = n) (he : evOp (.ustr e y z) env S.st = some (v, s')) :
    ∃ S' r, (Builtin.unsafeString_ #[pt, it] ty #[c, d]).run P S.w = .ok r S'.w ∧ S'.st = s' ∧ Inv B w0 S' ∧ Ext S S' ∧ Rel S' v r := by
  simp only [evOp, hy, hz] at he
  split at he
  · rename_i n'
    split at he
    · rename_i h0
      simp only [Option.some.injEq, Prod.mk.injEq] at he
      obtain ⟨rfl, rfl⟩ := he
      subst h0
      rw [hx.pnil_inv, hn.int_inv]
      exact ⟨S, _, Lib.run_unsafeString_none S.w pt it ty none, rfl, hI, Ext.refl S, .str []⟩
    · cases he
  · rename_i i xs n'
    split at he
    · rename_i hcond
      obtain ⟨hbq, hfq, hnl, hrm⟩ := hcond
      obtain ⟨bs, hbs, rfl, rfl⟩ := map_pair' he
      cases hx with
      | dat _ _ b off cap sz h1 h2 h3 h4 =>
        obtain ⟨m, q, hm, hn', hk⟩ := h4
        rw [hm] at hbq hfq
        simp only [Option.map_some, Option.some.injEq, decide_eq_true_eq] at hfq
        simp only [Option.map_some, Option.some.injEq, Prod.mk.injEq] at hbq
        obtain ⟨rfl, rfl⟩ := hbq
        obtain ⟨hpos, hby, rfl, ⟨k, hsh⟩, hρ⟩ := hk rfl hfq
        obtain ⟨cs, g1, g2, g3⟩ := h3.values
        obtain ⟨k1, k2, k3⟩ := bytes_cells hbs g1
        have hxs : xs ≠ [] := fun e => by rw [e] at hpos; simp at hpos
        obtain ⟨x0, hx0⟩ := List.exists_mem_of_ne_nil xs hxs
        have hsz : sz = 1 := by rw [← h2 x0 hx0]; exact k3 x0 hx0
        subst hsz
        have hcell : ∀ j u, bs[j]? = some u → S.w.cell? ((⟨b, 0, none⟩ : Addr).add j) = some (.int .u8 u.toNat) := by
          intro j u hj
          rw [Addr.add_at]
          have : cs[j]? = some (.int .u8 u.toNat) := by rw [k2]; simp [hj]
          exact (g2 j _ this).1
        have hlen : bs.length ≤ k := by
          have hlast : bs[bs.length - 1]? = some (bs[bs.length - 1]'(by omega)) := List.getElem?_eq_getElem (by omega)
          have := hcell _ _ hlast
          rw [Addr.add_at] at this
          obtain ⟨e', n'', hsh', hlt, _⟩ := World.shape?_of_cell? this
          simp only at hsh' hlt
          rw [hsh] at hsh'
          simp only [Option.some.injEq, Prod.mk.injEq] at hsh'
          omega
        have hlr : bs.length ≤ 9223372036854775807 := by
          have hroom : room = 140737488355328 := by decide
          rw [hroom] at hrm
          omega
        have hrun := Lib.run_unsafeString_row (P := P) S.w pt it ty q.2 hp hc1 b k hsh bs (fun e => by rw [e] at k1; simp at k1; omega) hlen hlr hcell
        have hnl' : n' = (bs.length : Int) := by omega
        rw [hn.int_inv, hnl']
        refine ⟨S.frz b bs.length, _, hrun, rfl, hI.frz hm hpos (by rw [hρ]) (by rw [hρ]; simp only; omega), Ext.frz S b _ (fun k q hk e => (hI.hid k q hk).2.2.2 _ (lt_of_get hm) (.inr ⟨_, _, hm, hpos⟩) (by rw [hρ]; exact e.symm)), .str bs⟩
    · cases he
  · cases he

/-- A pointer, to unsafe.Pointer. -/
theorem pu_ok (hI : Inv B w0 S) {src dst t : TypeId} (hs : P.underlying src = some (.pointer t)) (hd : P.underlying dst = some .unsafePointer) (hsz : (szOf P t).any (· ≠ 0) = true) {x v : V} {c : Value} (hx : Rel S x c)
    {s' : St} {env : Env} {y : X} (hy : y.ev env = x) (he : evOp (.pu y) env S.st = some (v, s')) : s' = S.st ∧ ∃ r, (convert src dst c).run P S.w = .ok r S.w ∧ Rel S v r := by
  simp only [evOp, hy] at he
  split at he
  · rename_i id off
    split at he
    · rename_i ty cs hid
      split at he
      · rename_i hoff
        simp only [Option.some.injEq, Prod.mk.injEq] at he
        obtain ⟨rfl, rfl⟩ := he
        have hx' := hx
        rw [hx.ptr_inv.1]
        obtain ⟨cc, hh, hl⟩ := hI.cellsOf hid
        rw [Option.any_eq_true] at hsz
        obtain ⟨k, hk, hk0⟩ := hsz
        simp only [szOf, Option.map_eq_some_iff] at hk
        obtain ⟨j, hj, rfl⟩ := hk
        refine ⟨rfl, _, Lib.run_to_unsafe S.w ⟨S.μ id, off, none⟩ hs hd hj (by simpa using hk0) (e := ty) (cells := cc.length) ?_ ?_, ?_⟩
        · simp [World.shape?, hh]
        · show off < cc.length
          rw [← hl.length]; exact hoff
        · rw [← hx.ptr_inv.1]; exact hx'
      · cases he
    · cases he
  · cases he

/-- .. and back. -/
theorem up_ok (hI : Inv B w0 S) {src dst u : TypeId} (hs : P.underlying src = some .unsafePointer) (hd : P.underlying dst = some (.pointer u)) (hl : liesOk P u = true) {x v : V} {c : Value} (hx : Rel S x c)
    {s' : St} {env : Env} {y : X} (hy : y.ev env = x) (he : evOp (.up u (P.cellsOf u) y) env S.st = some (v, s')) : s' = S.st ∧ ∃ r, (convert src dst c).run P S.w = .ok r S.w ∧ Rel S v r := by
  simp only [evOp, hy] at he
  split at he
  · rename_i id off
    split at he
    · rename_i ty cs hid
      split at he
      · rename_i hcond
        obtain ⟨rfl, rfl, hlen⟩ := hcond
        simp only [Option.some.injEq, Prod.mk.injEq] at he
        obtain ⟨rfl, rfl⟩ := he
        have hx' := hx
        rw [hx.ptr_inv.1]
        obtain ⟨cc, hh, hl'⟩ := hI.cellsOf hid
        simp only [liesOk, Bool.and_eq_true, decide_eq_true_eq] at hl
        obtain ⟨⟨hlies, hpos⟩, hinfo⟩ := hl
        obtain ⟨j, hj⟩ := Option.isSome_iff_exists.1 hinfo
        refine ⟨rfl, _, Lib.run_from_unsafe S.w ⟨S.μ id, 0, none⟩ hs hd hj (e := ty) (cells := cc.length) ?_ ?_, ?_⟩
        · simp [World.shape?, hh]
        · have : cc.length / P.cellsOf ty = 1 := by rw [← hl'.length, hlen]; exact Nat.div_self hpos
          rw [this]
          exact hlies
        · rw [← hx.ptr_inv.1]; exact hx'
      · cases he
    · cases he
  · cases he

end
end Go.Proofs.YtboejpobmpfifaaGreatDoor.Eng
