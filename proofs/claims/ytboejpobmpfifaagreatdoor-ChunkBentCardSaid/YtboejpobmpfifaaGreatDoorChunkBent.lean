/-
  A payload's value with one of its keys, or a value in it, bent is another payload's, or none's: never the same: the statement ChunkBent. Conditions: those of its given row and card, no other.
-/
import Derived.Test.YtboejpobmpfifaaGreatDoorDFs
import Derived.Test.YtboejpobmpfifaaGreatDoorWRow
import Derived.Test.YtboejpobmpfifaaGreatDoorTieBent
namespace Go.Proofs.YtboejpobmpfifaaGreatDoor.chunkBent
open Go Go.RowKit Go.ChangeShapes Go.WideShapes Go.ChangeAt Eng
set_option linter.unusedVariables false
set_option maxRecDepth 100000

theorem own : ownKnob Tryz.prog.godebug = none := by kernel_rfl
theorem laidOut : laidOutB Tryz.prog = true := by kernel_rfl
def tc : List TypeId := [2, 3, 4, 5, 9, 27, 43, 44, 46, 47, 48, 49, 51, 63, 144, 146, 148, 214]
theorem closed : closedT Tryz.prog tc = true := by kernel_rfl

theorem contract (H : Type) (enc : TypeId × Value → H) (W : World) (base : Nat) (args : Array Value) (ds gs : List (DataW H)) (before : List MemPlace)
    (hval : ∀ (j : Nat) t v, Tryz.f6.params[j]? = some t → args[j]? = some v → Value.okWide Tryz.prog W .any base t v)
    (hW : DataW.Whole enc Tryz.prog Tryz.f6.params.toList Rows.chunkBentSpec.vars false W args.toList ds gs before) (hsh : W.ShapedOpen Tryz.prog) (hL : laidMetH Tryz.prog Rows.chunkBentRow.laid W) :
    Calls Tryz.prog 6 args W fun e W' => ∃ v, e = .returned v ∧ Rows.chunkBentSpec.post enc Tryz.prog Tryz.f6 false true false false W args v W' := by
  have hL' : laidMet Tryz.prog Rows.chunkBentRow.laid W := hL
  have hT : Tabs W := tabs_of hsh hL' (by simp [Rows.chunkBentRow]) (by simp [Rows.chunkBentRow]) (by simp [Rows.chunkBentRow]) (by simp [Rows.chunkBentRow]) (by simp [Rows.chunkBentRow])
  have hB : 8 ≤ W.heap.size := heap8 hL' (by simp [Rows.chunkBentRow])
  refine law_contract (G := Eng.G) (tb := 4) (tc := tc) (fitsG hT hB) (fun a w => ?_) laidOut rfl ?_ closed (by kernel_rfl) Tryz.underlying4 ?_ ?_ hval hW
  · exact enters_of Tryz.func6 (by kernel_rfl) rfl a w
  · intro t ht
    rw [Tryz.params6] at ht
    simp at ht
    rcases ht with rfl | rfl | rfl
    · exact ⟨by kernel_rfl, of_decide_eq_true (by kernel_rfl), by simp [tc]⟩
    · exact ⟨by kernel_rfl, of_decide_eq_true (by kernel_rfl), by simp [tc]⟩
    · exact ⟨by kernel_rfl, of_decide_eq_true (by kernel_rfl), by simp [tc]⟩
  · intro us hus
    rw [Tryz.params6] at hus
    match us, hus with
    | [u0, u1, u2], hus =>
      obtain ⟨⟨fu0, x0, hx0, rfl⟩, ⟨fu1, x1, hx1, rfl⟩, ⟨fu2, x2, hx2, rfl⟩, _⟩ := hus
      obtain ⟨p, hp, rfl⟩ := pay_of _ _ hx0
      obtain ⟨n, e1, hn⟩ := ty_u8 u5 hx1
      obtain ⟨v, hv, rfl⟩ := jv_of _ _ hx2
      rw [is51, is46, e1, is5]
      exact bent_law p hp n hn v hv
  · intro ds' hl
    match ds', hl with
    | [d0, d1, d2], _ => exact ⟨rfl, rfl, rfl⟩

/-- A block with other cells. -/
def relay (cs : List Value) : Obj → Obj
  | .cells _ t frozen => .cells cs.toArray t frozen
  | o => o
def db32 : List Int := [0, 1, 28, 2, 29, 14, 24, 3, 30, 22, 20, 15, 25, 17, 4, 8, 31, 27, 13, 23, 21, 19, 16, 7, 26, 12, 18, 6, 11, 5, 10, 9]
def db64 : List Int := [0, 1, 56, 2, 57, 49, 28, 3, 61, 58, 42, 50, 38, 29, 17, 4, 62, 47, 59, 36, 45, 43, 51, 22, 53, 39, 33, 30, 24, 18, 12, 5, 63, 55, 48, 27, 60, 41, 37, 16, 46, 35, 44, 21, 52, 32, 23, 11, 54, 26, 40, 15, 34, 20, 31, 10, 25, 14, 19, 9, 13, 8, 7, 6]
def synB : List UInt8 := [105, 110, 118, 97, 108, 105, 100, 32, 115, 121, 110, 116, 97, 120]
def rngB : List UInt8 := [118, 97, 108, 117, 101, 32, 111, 117, 116, 32, 111, 102, 32, 114, 97, 110, 103, 101]
/-- A world for the witness: the settled one, with the tables laid. -/
noncomputable def laidWorld (os : Os) : World :=
  let w := World.holding Tryz.prog os ⟨#[], #[], []⟩
  let n := w.heap.size
  { w with heap := ((((((((w.heap.modify 3 (relay ((List.range 20).map fun i => Value.int .u64 ((10 ^ i : Nat) : Int)))).modify 1 (relay (Go.Pinned.utf8FirstZ.map fun z => Value.int .u8 (Int.ofNat z)))).modify 2
      (relay ((List.range 16).flatMap fun i => [Value.int .u8 (Lib.accLo i), Value.int .u8 (Lib.accHi i)]))).modify 6 (relay (db32.map fun z => Value.int .u8 z))).modify 7 (relay (db64.map fun z => Value.int .u8 z))).modify 4
      (relay [Value.iface 370 (.pointer (some ⟨n, 0, none⟩))])).modify 5 (relay [Value.iface 370 (.pointer (some ⟨n + 1, 0, none⟩))])).push (.cells #[.string ⟨synB.toArray⟩] 372 (0, 0))).push (.cells #[.string ⟨rngB.toArray⟩] 372 (0, 0)) }
def wArgs : Array Value := #[.agg #[.bool false, .int .i64 0, .int .i64 0, .string ⟨#[]⟩, .slice none 0 0, .slice none 0 0, .slice none 0 0, .slice none 0 0, .bool false, .int .i64 0, .bool false, .slice none 0 0, .bool false, .bool false, .bool false], .int .u8 0, .agg #[.int .i64 0, .int .i64 0, .string ⟨#[]⟩, .slice none 0 0, .slice none 0 0]]
theorem laid_met (os : Os) : laidMet Tryz.prog Rows.chunkBentRow.laid ((laidWorld os).forCall (fun _ _ => 0) ⟨#[], wArgs, []⟩).memory :=
  laidMet_of_run' 8 (by kernel_rfl) (by kernel_rfl)
theorem reads (os : Os) {H : Type} (enc : TypeId × Value → H) : ∃ places, DataW.whole enc Tryz.prog ((laidWorld os).forCall (fun _ _ => 0) ⟨#[], wArgs, []⟩).memory Tryz.f6.params.toList Rows.chunkBentSpec.vars false wArgs.toList 8 =
    some ([.agg [.lit (.bool false), .agg [.lit (.int .i64 0), .lit (.int .i64 0), .lit (.string []), .nil, .nil], .nil, .nil, .lit (.bool false), .lit (.int .i64 0), .lit (.bool false), .nil, .lit (.bool false), .lit (.bool false), .lit (.bool false)], .lit (.int .u8 0), .agg [.lit (.int .i64 0), .lit (.int .i64 0), .lit (.string []), .nil, .nil]], [], places) :=
  ⟨[], by kernel_rfl⟩

theorem lifted (os : Os) (started : os.Started) (H : Type) (enc : TypeId × Value → H) (F : Stop.Interp) :
    ReturnsInHanded {} Tryz.checked os 6 .any ((OpenSpec.ofChange Rows.chunkBentSpec).preRow enc Tryz.prog Tryz.f6 Rows.chunkBentRow.domain false Rows.chunkBentRow.laid) (((OpenSpec.ofChange Rows.chunkBentSpec).at F).post enc Tryz.prog Tryz.f6 false true false false) := by
  obtain ⟨places, hx⟩ := reads os enc
  refine returnsInHanded_of_row (C := Tryz.checked) (s := OpenSpec.ofChange Rows.chunkBentSpec) own started (by kernel_rfl) Tryz.func6
    (witness_row_at (enc := enc) (C := Tryz.checked) false (laidWorld os) wArgs rfl (by kernel_rfl) (by kernel_rfl) (by kernel_rfl)
      (OpenSpec.preRow_of_cond 8 hx (by kernel_rfl) (fun k hk => by cases hk) (by kernel_rfl) (laid_met os))) ?_
  intro W base args ds gs before hval hW _ _ _ hL hsh _
  exact contract H enc W base args ds gs before hval hW hsh hL

theorem said : Rows.ChunkBentSaid :=
  OpenClaim.holds_of_cond 6 Tryz.f6 rfl rfl rfl rfl rfl rfl rfl ⟨rfl, rfl, rfl, rfl, rfl⟩ rfl rfl rfl rfl rfl (by kernel_rfl) Tryz.func6 joined
    (of_decide_eq_true (by kernel_rfl)) (by unfold Func.isWrapper; first | (rw [if_pos (by decide +kernel)]; kernel_rfl) | (rw [if_neg (by decide +kernel)]; exact ⟨rfl, rfl⟩))
    (fun os started H enc _ F => by rw [OpenClaim.pre_eq_preRow]; exact lifted os started H enc F)

theorem plain (f : FuncId) (fn : Func) (hf : Tryz.pinned.checked.prog.funcNamed "cascade/cascadelaw27.ChunkBent" = some f) (hfn : Tryz.pinned.checked.prog.funcs[f]? = some fn) :
    true = Tryz.pinned.checked.prog.looks [] ∧ ∀ (j : Nat) t, fn.params[j]? = some t → Tryz.pinned.checked.prog.wantsStandIn t = false := by
  obtain rfl : f = 6 := Option.some.inj ((show Tryz.prog.funcNamed "cascade/cascadelaw27.ChunkBent" = some 6 by kernel_rfl).symm.trans hf) |>.symm
  obtain rfl : fn = Tryz.f6 := (Option.some.inj (Tryz.func6.symm.trans hfn)).symm
  refine ⟨by kernel_rfl, fun j t ht => ?_⟩
  rw [Tryz.params6] at ht
  have ht' : t = 51 ∨ t = 5 ∨ t = 46 := by simpa using Array.mem_of_getElem? ht
  rcases ht' with rfl | rfl | rfl
  · exact (show Tryz.prog.wantsStandIn 51 = false by kernel_rfl)
  · exact (show Tryz.prog.wantsStandIn 5 = false by kernel_rfl)
  · exact (show Tryz.prog.wantsStandIn 46 = false by kernel_rfl)

/-- The card. -/
theorem card : Rows.ChunkBentCardSaid :=
  Claim7.holds_tied_plain_at .later [] _ _ _ _ said (fun _ h => by cases h) wfText (fun _ h => by cases h) chunkBent_row_tie rfl ⟨rfl, rfl⟩ (by kernel_rfl) rfl plain goes
#print axioms card

end Go.Proofs.YtboejpobmpfifaaGreatDoor.chunkBent
