/-
  Primitive functions: what a laid contract says, as the evaluator says it. No condition.
-/
import Derived.Test.YtboejpobmpfifaaGreatDoorEngO
import Derived.Shelf.Abstract
import Derived.Laws.Externs
import Derived.Sort.Grow
import Derived.Deep.Draws
namespace Go.Proofs.YtboejpobmpfifaaGreatDoor.Eng
open Go Go.RowKit
set_option linter.unusedSimpArgs false
set_option linter.unusedVariables false

section
variable {P : Program} {B : Nat} {w0 : World} {S : Sit}

/-- A later world, in which all that was there is as it was. -/
def Sit.later (S : Sit) (w : World) : Sit := { S with w := w }

theorem shape_of_block {w w' : World} {b : Nat} (h : w'.heap[b]? = w.heap[b]?) : w'.shape? b = w.shape? b := by simp only [World.shape?]; rw [h]

theorem Ext.later (hI : Inv B w0 S) {w : World} (h : Below S.w.heap.size S.w w) : Ext S (S.later w) where
  hid b q hb := ⟨hb, h.block b (hI.hid b q hb).2.1⟩
  size := h.size
  shape b hb := shape_of_block (h.block b hb)
  cell a ha _ := World.cell?_of_block (w := S.w) (h.block _ ha)
  own _ _ ho := ho
  obs := Nat.le_refl _
  bufs := Nat.le_refl _
  mu _ _ := rfl
  buf i m b _ hm := ⟨m, b, hm, .inr (.inl ⟨rfl, rfl, rfl⟩)⟩
  tau _ _ _ _ _ _ := rfl

theorem Inv.later (hI : Inv B w0 S) {w : World} (h : Below S.w.heap.size S.w w) : Inv B w0 (S.later w) where
  below := hI.below.trans ⟨h.os, h.tape, h.output, h.size, fun k hk => h.block k (by have := hI.base; omega)⟩
  base := by have := hI.base; have := h.size; simp only [Sit.later]; omega
  obj i o ho := by
    have := hI.obj i o ho
    exact ⟨this.1, this.2.mono (Ext.later hI h) (h.block _ this.2.lt)⟩
  inj := hI.inj
  injc := hI.injc
  buf i hi j h1 h2 := by
    obtain ⟨hb, ⟨c, hc⟩, hf⟩ := hI.buf i hi j h1 h2
    have hlt : (S.ρ i).1 < S.w.heap.size := World.block_lt_of_cell? (a := ⟨(S.ρ i).1, j, none⟩) _ hc
    exact ⟨hb, ⟨c, (World.cell?_of_block (w := S.w) (a := ⟨(S.ρ i).1, j, none⟩) (h.block _ hlt)).trans hc⟩,
      (World.frozen?_of_block (w := S.w) (a := ⟨(S.ρ i).1, j, none⟩) (h.block _ hlt)).trans hf⟩
  froz i hi hr := (hI.froz i hi hr).of_block (h.block _ (hI.rho_lt hi hr))
  live i hi hl := by
    have := hI.live i hi hl
    exact ⟨this.1, Nat.lt_of_lt_of_le this.2 h.size⟩
  bufobj := hI.bufobj
  bufbuf := hI.bufbuf
  hid b q hb := by
    obtain ⟨h1, h2, h3, h4⟩ := hI.hid b q hb
    exact ⟨h1, Nat.lt_of_lt_of_le h2 h.size, h3, h4⟩

theorem sound_of_calls {f : FuncId} {args : List V} {s : St} {v : V} (he : ∀ args w, (callFunc f args).run P w = .ok (.enter f args) w)
    (h : ∀ (S : Sit) (cargs : List Value), S.st = s → Inv B w0 S → RelL S args cargs → ∃ c, Rel S v c ∧ Calls P f cargs.toArray S.w fun e w' => e = .returned c ∧ Below S.w.heap.size S.w w') :
    SoundCall P B w0 f args s (v, s) := by
  intro S cargs hst hI hargs
  obtain ⟨c, hc, hcalls⟩ := h S cargs hst hI hargs
  left
  refine ⟨he _ _, hcalls.mono ?_⟩
  rintro e w' ⟨rfl, hb⟩
  · exact ⟨c, S.later w', rfl, rfl, hst, hI.later hb, Ext.later hI hb, hc.mono (Ext.later hI hb)⟩

theorem sound_of_value {f : FuncId} {args : List V} {s : St} {v : V}
    (h : ∀ (S : Sit) (cargs : List Value), S.st = s → Inv B w0 S → RelL S args cargs → ∃ c, Rel S v c ∧ (callFunc f cargs.toArray).run P S.w = .ok (.value c) S.w) :
    SoundCall P B w0 f args s (v, s) := by
  intro S cargs hst hI hargs
  obtain ⟨c, hc, hr⟩ := h S cargs hst hI hargs
  exact .inr ⟨c, S.w, hr, ⟨c, S, rfl, rfl, hst, hI, Ext.refl S, hc⟩⟩

theorem below_grow (w : World) (k : Nat) (os : Array Obj) : Below w.heap.size w (Go.Sort.grow (w.drewN k) os) :=
  ⟨rfl, rfl, rfl, by simp [Go.Sort.grow, World.drewN], fun i hi => by simp [Go.Sort.grow, World.drewN, Array.getElem?_append, hi]⟩

def primId : List V → St → Option (V × St)
  | [v], s => some (v, s)
  | _, _ => none

theorem primId_ok {f : FuncId} {fn : Func} (hf : P.funcs[f]? = some fn) (hname : (fn.name == "runtime.NumGoroutine") = false) (hb : fn.body.isNone = true) (hn : Extern.findNext fn = none)
    (he : Extern.find fn = some Extern.AbiNoEscape.same) {args : List V} {s : St} {r : V × St} (h : primId args s = some r) : SoundCall P B w0 f args s r := by
  unfold primId at h
  split at h
  · rename_i v s
    cases h
    refine sound_of_value (fun S cargs hst hI hargs => ?_)
    cases hargs with
    | cons _ c _ _ hc hl =>
      cases hl
      exact ⟨c, hc, by rw [run_callFunc_extern hf hname hb hn he]; rfl⟩
  · cases h

end
end Go.Proofs.YtboejpobmpfifaaGreatDoor.Eng
