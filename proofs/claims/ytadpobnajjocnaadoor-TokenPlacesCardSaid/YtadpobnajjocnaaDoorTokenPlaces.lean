/-
  Tokens stand at rising places, as they are: the statement TokenPlaces. Conditions: those of its given row and card, no other.
-/
import Derived.Test.YtadpobnajjocnaaDoorD3
import Derived.Test.YtadpobnajjocnaaDoorDRow
namespace Go.Proofs.YtadpobnajjocnaaDoor.tokenPlaces
open Go Go.RowKit Go.ChangeShapes Go.WideShapes Go.ChangeAt Eng
set_option linter.unusedVariables false
set_option maxRecDepth 100000

theorem own : ownKnob Tryd.prog.godebug = none := by kernel_rfl
theorem laidOut : laidOutB Tryd.prog = true := by kernel_rfl
def tc : List TypeId := [9]
theorem closed : closedT Tryd.prog tc = true := by kernel_rfl

theorem contract (H : Type) (enc : TypeId × Value → H) (W : World) (base : Nat) (args : Array Value) (ds gs : List (DataW H)) (before : List MemPlace)
    (hval : ∀ (j : Nat) t v, Tryd.f4.params[j]? = some t → args[j]? = some v → Value.okWide Tryd.prog W .any base t v)
    (hW : DataW.Whole enc Tryd.prog Tryd.f4.params.toList Rows.tokenPlacesSpec.vars false W args.toList ds gs before) (hsh : W.ShapedOpen Tryd.prog) (hL : laidMetH Tryd.prog Rows.tokenPlacesRow.laid W) :
    Calls Tryd.prog 4 args W fun e W' => ∃ v, e = .returned v ∧ Rows.tokenPlacesSpec.post enc Tryd.prog Tryd.f4 false true false false W args v W' := by
  have hL' : laidMet Tryd.prog Rows.tokenPlacesRow.laid W := hL
  have hT : Tabs W := tabs_of hsh hL' (by simp [Rows.tokenPlacesRow]) (by simp [Rows.tokenPlacesRow]) (by simp [Rows.tokenPlacesRow]) (by simp [Rows.tokenPlacesRow])
  have hB : 8 ≤ W.heap.size := heap8 hL' (by simp [Rows.tokenPlacesRow])
  refine law_contract (G := Eng.G) (tb := 4) (tc := tc) (fitsG hT hB) (fun a w => ?_) laidOut rfl ?_ closed (by kernel_rfl) Tryd.underlying4 ?_ ?_ hval hW
  · exact enters_of Tryd.func4 (by kernel_rfl) rfl a w
  · intro t ht
    rw [Tryd.params4] at ht
    simp at ht
    subst ht
    exact ⟨by kernel_rfl, of_decide_eq_true (by kernel_rfl), by simp [tc]⟩
  · intro us hus
    rw [Tryd.params4] at hus
    match us, hus with
    | [u0], hus =>
      obtain ⟨⟨fu0, x0, hx0, rfl⟩, _⟩ := hus
      obtain ⟨q, rfl, hq⟩ := ty_str u9 hx0
      rw [is9]
      exact places_law q hq ⟨[], []⟩
  · intro ds' hl
    match ds', hl with
    | [d0], _ => exact ⟨rfl, rfl, rfl⟩

/-- A block with other cells. -/
def relay (cs : List Value) : Obj → Obj
  | .cells _ t frozen => .cells cs.toArray t frozen
  | o => o
def db32 : List Int := [0, 1, 28, 2, 29, 14, 24, 3, 30, 22, 20, 15, 25, 17, 4, 8, 31, 27, 13, 23, 21, 19, 16, 7, 26, 12, 18, 6, 11, 5, 10, 9]
def db64 : List Int := [0, 1, 56, 2, 57, 49, 28, 3, 61, 58, 42, 50, 38, 29, 17, 4, 62, 47, 59, 36, 45, 43, 51, 22, 53, 39, 33, 30, 24, 18, 12, 5, 63, 55, 48, 27, 60, 41, 37, 16, 46, 35, 44, 21, 52, 32, 23, 11, 54, 26, 40, 15, 34, 20, 31, 10, 25, 14, 19, 9, 13, 8, 7, 6]
def synB : List UInt8 := [105, 110, 118, 97, 108, 105, 100, 32, 115, 121, 110, 116, 97, 120]
def rngB : List UInt8 := [118, 97, 108, 117, 101, 32, 111, 117, 116, 32, 111, 102, 32, 114, 97, 110, 103, 101]
/-- A world for the witness: the settled one, with the tables laid. -/
noncomputable def laidWorld (os : Os) : World :=
  let w := World.holding Tryd.prog os ⟨#[], #[], []⟩
  let n := w.heap.size
  { w with heap := ((((((((w.heap.modify 5 (relay ((List.range 20).map fun i => Value.int .u64 ((10 ^ i : Nat) : Int)))).modify 0 (relay (Go.Pinned.utf8FirstZ.map fun z => Value.int .u8 (Int.ofNat z)))).modify 1
      (relay ((List.range 16).flatMap fun i => [Value.int .u8 (Lib.accLo i), Value.int .u8 (Lib.accHi i)]))).modify 6 (relay (db32.map fun z => Value.int .u8 z))).modify 7 (relay (db64.map fun z => Value.int .u8 z))).modify 3
      (relay [Value.iface 105 (.pointer (some ⟨n, 0, none⟩))])).modify 4 (relay [Value.iface 105 (.pointer (some ⟨n + 1, 0, none⟩))])).push (.cells #[.string ⟨synB.toArray⟩] 107 (0, 0))).push (.cells #[.string ⟨rngB.toArray⟩] 107 (0, 0)) }
def wArgs : Array Value := #[.string ⟨#[]⟩]
theorem laid_met (os : Os) : laidMet Tryd.prog Rows.tokenPlacesRow.laid ((laidWorld os).forCall (fun _ _ => 0) ⟨#[], wArgs, []⟩).memory :=
  laidMet_of_run' 8 (by kernel_rfl) (by kernel_rfl)
theorem reads (os : Os) {H : Type} (enc : TypeId × Value → H) : ∃ places, DataW.whole enc Tryd.prog ((laidWorld os).forCall (fun _ _ => 0) ⟨#[], wArgs, []⟩).memory Tryd.f4.params.toList Rows.tokenPlacesSpec.vars false wArgs.toList 8 =
    some ([.lit (.string [])], [], places) :=
  ⟨[], by kernel_rfl⟩

theorem lifted (os : Os) (started : os.Started) (H : Type) (enc : TypeId × Value → H) (F : Stop.Interp) :
    ReturnsInHanded {} Tryd.checked os 4 .any ((OpenSpec.ofChange Rows.tokenPlacesSpec).preRow enc Tryd.prog Tryd.f4 Rows.tokenPlacesRow.domain false Rows.tokenPlacesRow.laid) (((OpenSpec.ofChange Rows.tokenPlacesSpec).at F).post enc Tryd.prog Tryd.f4 false true false false) := by
  obtain ⟨places, hx⟩ := reads os enc
  refine returnsInHanded_of_row (C := Tryd.checked) (s := OpenSpec.ofChange Rows.tokenPlacesSpec) own started (by kernel_rfl) Tryd.func4
    (witness_row_at (enc := enc) (C := Tryd.checked) false (laidWorld os) wArgs rfl (by kernel_rfl) (by kernel_rfl) (by kernel_rfl)
      (OpenSpec.preRow_of_cond 8 hx (by kernel_rfl) (fun k hk => by cases hk) (by kernel_rfl) (laid_met os))) ?_
  intro W base args ds gs before hval hW _ _ _ hL hsh _
  exact contract H enc W base args ds gs before hval hW hsh hL

theorem said : Rows.TokenPlacesSaid :=
  OpenClaim.holds_of_cond 4 Tryd.f4 rfl rfl rfl rfl rfl rfl rfl ⟨rfl, rfl, rfl, rfl, rfl⟩ rfl rfl rfl rfl rfl (by kernel_rfl) Tryd.func4 (by kernel_rfl)
    (of_decide_eq_true (by kernel_rfl)) (by unfold Func.isWrapper; first | (rw [if_pos (by decide +kernel)]; kernel_rfl) | (rw [if_neg (by decide +kernel)]; exact ⟨rfl, rfl⟩))
    (fun os started H enc _ F => by rw [OpenClaim.pre_eq_preRow]; exact lifted os started H enc F)

theorem plain (f : FuncId) (fn : Func) (hf : Tryd.pinned.checked.prog.funcNamed "cascade/cascadelaw08.TokenPlaces" = some f) (hfn : Tryd.pinned.checked.prog.funcs[f]? = some fn) :
    true = Tryd.pinned.checked.prog.looks [] ∧ ∀ (j : Nat) t, fn.params[j]? = some t → Tryd.pinned.checked.prog.wantsStandIn t = false := by
  obtain rfl : f = 4 := Option.some.inj ((show Tryd.prog.funcNamed "cascade/cascadelaw08.TokenPlaces" = some 4 by kernel_rfl).symm.trans hf) |>.symm
  obtain rfl : fn = Tryd.f4 := (Option.some.inj (Tryd.func4.symm.trans hfn)).symm
  refine ⟨by kernel_rfl, fun j t ht => ?_⟩
  rw [Tryd.params4] at ht
  obtain rfl : t = 9 := by simpa using Array.mem_of_getElem? ht
  exact (show Tryd.prog.wantsStandIn 9 = false by kernel_rfl)

/-- The card. -/
theorem card : Rows.TokenPlacesCardSaid :=
  Claim7.holds_tied_plain_at .later [] _ _ _ _ said (fun _ h => by cases h) (by kernel_rfl) (fun _ h => by cases h) tokenPlaces_row_tie rfl ⟨rfl, rfl⟩ (by kernel_rfl) rfl plain (by kernel_rfl)
#print axioms card

end Go.Proofs.YtadpobnajjocnaaDoor.tokenPlaces
