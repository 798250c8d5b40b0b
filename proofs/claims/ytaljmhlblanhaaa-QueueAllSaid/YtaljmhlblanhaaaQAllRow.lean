/-
  Two queues, one with a patience and one without: all that is put is taken once, whatever is picked: the statement QueueAll. Conditions: those of its given row, no other.
-/
import Derived.Test.YtaljmhlblanhaaaQAll
import Derived.Test.YtaljmhlblanhaaaQRow
namespace Go.Proofs.Ytaljmhlblanhaaa.queueAll
open Go Go.RowKit Go.ChangeShapes Go.WideShapes Go.ChangeAt Eng
set_option linter.unusedVariables false
set_option maxRecDepth 100000

theorem own : ownKnob Try.prog.godebug = none := by kernel_rfl
theorem laidOut : laidOutB Try.prog = true := by kernel_rfl
def tc : List TypeId := [5, 3, 26]
theorem closed : closedT Try.prog tc = true := by kernel_rfl

theorem contract (H : Type) (enc : TypeId × Value → H) (W : World) (base : Nat) (args : Array Value) (ds gs : List (DataW H)) (before : List MemPlace)
    (hval : ∀ (j : Nat) t v, Try.f4.params[j]? = some t → args[j]? = some v → Value.okWide Try.prog W .any base t v)
    (hW : DataW.Whole enc Try.prog Try.f4.params.toList Rows.queueAllSpec.vars false W args.toList ds gs before) :
    Calls Try.prog 4 args W fun e W' => ∃ v, e = .returned v ∧ Rows.queueAllSpec.post enc Try.prog Try.f4 false true false false W args v W' := by
  refine law_contract (G := Eng.G) (tb := 4) (tc := tc) fitsG (fun a w => ?_) laidOut rfl ?_ closed (by kernel_rfl) Try.underlying4 ?_ ?_ hval hW
  · exact enters_of Try.func4 (by kernel_rfl) rfl a w
  · intro t ht
    rw [Try.params4] at ht
    simp at ht
    rcases ht with rfl | rfl
    · exact ⟨by kernel_rfl, of_decide_eq_true (by kernel_rfl), by simp [tc]⟩
    · exact ⟨by kernel_rfl, of_decide_eq_true (by kernel_rfl), by simp [tc]⟩
  · intro us hus
    rw [Try.params4] at hus
    match us, hus with
    | [u, u', u''], hus =>
      obtain ⟨⟨fuel, x, hx, rfl⟩, ⟨fuel', x', hx', rfl⟩, ⟨fuel'', x'', hx'', rfl⟩, _⟩ := hus
      obtain ⟨n, rfl, hn⟩ := ty_int Try.underlying5 hx
      obtain ⟨m, rfl, hm⟩ := ty_int Try.underlying5 hx'
      obtain ⟨d, xs, rfl, hl, hxs⟩ := ty_slice Try.underlying26 hx''
      obtain ⟨l, hl, _⟩ := ints_of hxs
      rw [hl, pack_one (by kernel_rfl), pack_one (by kernel_rfl), pack_one (by kernel_rfl)]
      exact all_spec n m l (wf8 hn).1 (wf8 hn).2 (wf8 hm).1 (wf8 hm).2 _
  · intro ds' hl
    match ds', hl with
    | [d, d', d''], _ => exact ⟨rfl, rfl, rfl⟩

def wArgs : Array Value := #[.int .u8 0, .int .u8 0, .slice none 0 0]

theorem lifted (os : Os) (started : os.Started) (H : Type) (enc : TypeId × Value → H) :
    ReturnsInHanded {} Try.checked os 4 .any (Rows.queueAllSpec.pre6 enc Try.prog Try.f4 Rows.queueAllRow.domain false) (Rows.queueAllSpec.post enc Try.prog Try.f4 false true false false) := by
  refine returnsInHanded_of_change (C := Try.checked) own started (by kernel_rfl) Try.func4
    (ChangeSpec.witness6 (enc := enc) (C := Try.checked) false ⟨#[], wArgs, []⟩ 8 (by kernel_rfl) (by kernel_rfl) (by kernel_rfl) (by kernel_rfl)) ?_
  intro W base args ds gs before hval hW _ _
  exact contract H enc W base args ds gs before hval hW

/-- The statement. -/
theorem said : Rows.QueueAllSaid :=
  OpenClaim.holds_of_wide 4 Try.f4 rfl rfl rfl rfl rfl rfl rfl ⟨rfl, rfl, rfl, rfl, rfl⟩ rfl rfl rfl rfl rfl (by kernel_rfl) Try.func4 (by kernel_rfl)
    (of_decide_eq_true (by kernel_rfl)) (by unfold Func.isWrapper; first | (rw [if_pos (by decide +kernel)]; kernel_rfl) | (rw [if_neg (by decide +kernel)]; exact ⟨rfl, rfl⟩))
    (fun os started H enc _ => lifted os started H enc)
#print axioms said

end Go.Proofs.Ytaljmhlblanhaaa.queueAll
