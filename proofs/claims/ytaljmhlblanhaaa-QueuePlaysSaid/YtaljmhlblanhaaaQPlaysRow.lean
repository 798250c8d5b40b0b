/-
  Whatever is put and taken, with whatever patience, each answer, how many there are, and their ages, are the chapter's: the statement QueuePlays. Conditions: those of its given row, no other.
-/
import Derived.Test.YtaljmhlblanhaaaQOps
import Derived.Test.YtaljmhlblanhaaaQPlays
import Derived.Test.YtaljmhlblanhaaaQRow
namespace Go.Proofs.Ytaljmhlblanhaaa.queuePlays
open Go Go.RowKit Go.ChangeShapes Go.WideShapes Go.ChangeAt Eng
set_option linter.unusedVariables false
set_option maxRecDepth 100000

theorem own : ownKnob Try.prog.godebug = none := by kernel_rfl
theorem laidOut : laidOutB Try.prog = true := by kernel_rfl
def tc : List TypeId := [22, 29, 4, 3, 9]
theorem closed : closedT Try.prog tc = true := by kernel_rfl

theorem contract (H : Type) (enc : TypeId × Value → H) (W : World) (base : Nat) (args : Array Value) (ds gs : List (DataW H)) (before : List MemPlace)
    (hval : ∀ (j : Nat) t v, Try.f5.params[j]? = some t → args[j]? = some v → Value.okWide Try.prog W .any base t v)
    (hW : DataW.Whole enc Try.prog Try.f5.params.toList Rows.queuePlaysSpec.vars false W args.toList ds gs before) :
    Calls Try.prog 5 args W fun e W' => ∃ v, e = .returned v ∧ Rows.queuePlaysSpec.post enc Try.prog Try.f5 false true false false W args v W' := by
  refine law_contract (G := Eng.G) (tb := 4) (tc := tc) fitsG (fun a w => ?_) laidOut rfl ?_ closed (by kernel_rfl) Try.underlying4 ?_ ?_ hval hW
  · exact enters_of Try.func5 (by kernel_rfl) rfl a w
  · intro t ht
    rw [Try.params5] at ht
    simp at ht
    rcases ht with rfl | rfl
    · exact ⟨by kernel_rfl, of_decide_eq_true (by kernel_rfl), by simp [tc]⟩
    · exact ⟨by kernel_rfl, of_decide_eq_true (by kernel_rfl), by simp [tc]⟩
  · intro us hus
    rw [Try.params5] at hus
    match us, hus with
    | [u, u'], hus =>
      obtain ⟨⟨fuel, x, hx, rfl⟩, ⟨fuel', x', hx', rfl⟩, _⟩ := hus
      obtain ⟨n, rfl, hn⟩ := ty_int Try.underlying3 hx
      obtain ⟨d, xs, rfl, hl, hxs⟩ := ty_slice Try.underlying22 hx'
      obtain ⟨l, hl', hll, _⟩ := ops_of hxs
      rw [hl', pack_one (by kernel_rfl), pack_one (by kernel_rfl)]
      exact Qs.plays_spec n l (by omega) _
  · intro ds' hl
    match ds', hl with
    | [d, d'], _ => exact ⟨rfl, rfl, rfl⟩

def wArgs : Array Value := #[.int .i64 0, .slice none 0 0]

theorem lifted (os : Os) (started : os.Started) (H : Type) (enc : TypeId × Value → H) :
    ReturnsInHanded {} Try.checked os 5 .any (Rows.queuePlaysSpec.pre6 enc Try.prog Try.f5 Rows.queuePlaysRow.domain false) (Rows.queuePlaysSpec.post enc Try.prog Try.f5 false true false false) := by
  refine returnsInHanded_of_change (C := Try.checked) own started (by kernel_rfl) Try.func5
    (ChangeSpec.witness6 (enc := enc) (C := Try.checked) false ⟨#[], wArgs, []⟩ 8 (by kernel_rfl) (by kernel_rfl) (by kernel_rfl) (by kernel_rfl)) ?_
  intro W base args ds gs before hval hW _ _
  exact contract H enc W base args ds gs before hval hW

/-- The statement. -/
theorem said : Rows.QueuePlaysSaid :=
  OpenClaim.holds_of_wide 5 Try.f5 rfl rfl rfl rfl rfl rfl rfl ⟨rfl, rfl, rfl, rfl, rfl⟩ rfl rfl rfl rfl rfl (by kernel_rfl) Try.func5 (by kernel_rfl)
    (of_decide_eq_true (by kernel_rfl)) (by unfold Func.isWrapper; first | (rw [if_pos (by decide +kernel)]; kernel_rfl) | (rw [if_neg (by decide +kernel)]; exact ⟨rfl, rfl⟩))
    (fun os started H enc _ => lifted os started H enc)
#print axioms said

end Go.Proofs.Ytaljmhlblanhaaa.queuePlays
