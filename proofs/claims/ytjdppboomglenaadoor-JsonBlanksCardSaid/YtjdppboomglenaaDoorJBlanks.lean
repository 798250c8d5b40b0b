/-
  Blanks about a right value's JSON change nothing; cut short, or with a sign behind, it is refused: the statement JsonBlanks. Conditions: those of its given row and card, no other.
-/
import Derived.Test.YtjdppboomglenaaDoorJBls
import Derived.Test.YtjdppboomglenaaDoorJRow
namespace Go.Proofs.YtjdppboomglenaaDoor.jsonBlanks
open Go Go.RowKit Go.ChangeShapes Go.WideShapes Go.ChangeAt Eng
set_option linter.unusedVariables false
set_option maxRecDepth 100000

theorem own : ownKnob Tryd.prog.godebug = none := by kernel_rfl
theorem laidOut : laidOutB Tryd.prog = true := by kernel_rfl
def tc : List TypeId := [3, 2, 9, 22, 23, 25, 48, 36, 5, 37]
theorem closed : closedT Tryd.prog tc = true := by kernel_rfl

theorem ty_intk {d : Nat} {t : TypeId} {k : IntKind} (ht : Tryd.prog.underlying t = some (.int k)) {vs : List V} (h : Ty Tryd.prog d t vs) : ∃ n, vs = [.int k n] ∧ (Lit.int k n).wf = true := by
  cases d with
  | zero => exact h.elim
  | succ d =>
    simp only [Ty, ht] at h
    exact h
theorem ty_u16 {d : Nat} {vs : List V} (h : Ty Tryd.prog d 37 vs) : ∃ n : Int, vs = [.int .u16 n] ∧ 0 ≤ n ∧ n < 65536 := by
  obtain ⟨n, h1, h2⟩ := ty_intk (k := .u16) (by kernel_rfl) h
  have e1 : IntKind.u16.min = 0 := rfl
  have e2 : IntKind.u16.max = 65535 := rfl
  simp [Lit.wf, e1, e2] at h2
  exact ⟨n, h1, by omega, by omega⟩
theorem pack_one {t : TypeId} (h : isAggT Tryd.prog t = false) (v : V) : packT Tryd.prog t [v] = v := by
  unfold packT; rw [h]; rfl
theorem bytes_ty {d : Nat} {vs : List V} (h : Ty Tryd.prog d 36 vs) : ∃ l : List UInt8, l.length ≤ 9223372036854775807 ∧ vs = [.sl .no (asBytes l)] := by
  cases d with
  | zero => exact h.elim
  | succ d =>
    obtain ⟨xs, h1, h2, h3⟩ := ty_slice (e := 5) (by kernel_rfl) h
    have key : ∀ ys : List (List V), (∀ y ∈ ys, Ty Tryd.prog d 5 y) → ∃ l : List UInt8, l.length = ys.length ∧ ys.map (packT Tryd.prog 5) = asBytes l := by
      intro ys
      induction ys with
      | nil => intro _; exact ⟨[], rfl, rfl⟩
      | cons y ys ih =>
        intro hys
        obtain ⟨l, l1, l2⟩ := ih (fun w hw => hys w (by simp [hw]))
        obtain ⟨n, n1, n2⟩ := ty_intk (k := .u8) (by kernel_rfl) (hys y (by simp))
        have e1 : IntKind.u8.min = 0 := rfl
        have e2 : IntKind.u8.max = 255 := rfl
        simp [Lit.wf, e1, e2] at n2
        refine ⟨UInt8.ofNat n.toNat :: l, by simp [l1], ?_⟩
        have hb : ((UInt8.ofNat n.toNat).toNat : Int) = n := by rw [UInt8.toNat_ofNat']; omega
        subst n1
        rw [List.map_cons, pack_one (by kernel_rfl), l2]
        show V.int .u8 n :: asBytes l = V.int .u8 ((UInt8.ofNat n.toNat).toNat : Int) :: asBytes l
        rw [hb]
    obtain ⟨l, l1, l2⟩ := key xs h3
    exact ⟨l, by omega, by rw [h1, l2]⟩

theorem contract (H : Type) (enc : TypeId × Value → H) (W : World) (base : Nat) (args : Array Value) (ds gs : List (DataW H)) (before : List MemPlace)
    (hval : ∀ (j : Nat) t v, Tryd.f6.params[j]? = some t → args[j]? = some v → Value.okWide Tryd.prog W .any base t v)
    (hW : DataW.Whole enc Tryd.prog Tryd.f6.params.toList Rows.jsonBlanksSpec.vars false W args.toList ds gs before) (hL : laidMetH Tryd.prog Rows.jsonBlanksRow.laid W) :
    Calls Tryd.prog 6 args W fun e W' => ∃ v, e = .returned v ∧ Rows.jsonBlanksSpec.post enc Tryd.prog Tryd.f6 false true false false W args v W' := by
  have hL' : laidMet Tryd.prog Rows.jsonBlanksRow.laid W := hL
  have hT : Tabs W := tabs_of hL' (by simp [Rows.jsonBlanksRow]) (by simp [Rows.jsonBlanksRow]) (by simp [Rows.jsonBlanksRow]) (by simp [Rows.jsonBlanksRow]) (by simp [Rows.jsonBlanksRow])
  have hB : 8 ≤ W.heap.size := by
    obtain ⟨tp, p, hc⟩ := hT.rng
    have h2 : 7 < W.heap.size := World.block_lt_of_cell? (a := ⟨7, 0, none⟩) _ hc
    omega
  refine law_contract (G := Eng.G) (tb := 4) (tc := tc) (fitsG hT hB) (fun a w => ?_) laidOut rfl ?_ closed (by kernel_rfl) Tryd.underlying4 ?_ ?_ hval hW
  · exact enters_of Tryd.func6 (by kernel_rfl) rfl a w
  · intro t ht
    rw [Tryd.params6] at ht
    simp at ht
    rcases ht with rfl | rfl | rfl
    · exact ⟨by kernel_rfl, of_decide_eq_true (by kernel_rfl), by simp [tc]⟩
    · exact ⟨by kernel_rfl, of_decide_eq_true (by kernel_rfl), by simp [tc]⟩
    · exact ⟨by kernel_rfl, of_decide_eq_true (by kernel_rfl), by simp [tc]⟩
  · intro us hus
    rw [Tryd.params6] at hus
    match us, hus with
    | [u, u2, u3], hus =>
      obtain ⟨⟨fuel, x, hx, rfl⟩, ⟨fuel2, y, hy, rfl⟩, ⟨fuel3, z, hz, rfl⟩, _⟩ := hus
      obtain ⟨v, hv, rfl⟩ := jv_of fuel x hx
      obtain ⟨l, hl, rfl⟩ := bytes_ty hy
      obtain ⟨n, rfl, h0, h1⟩ := ty_u16 hz
      rw [is25, pack_one (by kernel_rfl), pack_one (by kernel_rfl)]
      have hn : n = ((n.toNat : Nat) : Int) := by omega
      rw [hn]
      exact ⟨_, blanks_spec v hv l hl n.toNat (by omega)⟩
  · intro ds' hl
    match ds', hl with
    | [d, d2, d3], _ => exact ⟨rfl, rfl, rfl⟩

/-- A block with other cells. -/
def relay (cs : List Value) : Obj → Obj
  | .cells _ t frozen => .cells cs.toArray t frozen
  | o => o
def db32 : List Int := [0, 1, 28, 2, 29, 14, 24, 3, 30, 22, 20, 15, 25, 17, 4, 8, 31, 27, 13, 23, 21, 19, 16, 7, 26, 12, 18, 6, 11, 5, 10, 9]
def db64 : List Int := [0, 1, 56, 2, 57, 49, 28, 3, 61, 58, 42, 50, 38, 29, 17, 4, 62, 47, 59, 36, 45, 43, 51, 22, 53, 39, 33, 30, 24, 18, 12, 5, 63, 55, 48, 27, 60, 41, 37, 16, 46, 35, 44, 21, 52, 32, 23, 11, 54, 26, 40, 15, 34, 20, 31, 10, 25, 14, 19, 9, 13, 8, 7, 6]
def synB : List UInt8 := [105, 110, 118, 97, 108, 105, 100, 32, 115, 121, 110, 116, 97, 120]
def rngB : List UInt8 := [118, 97, 108, 117, 101, 32, 111, 117, 116, 32, 111, 102, 32, 114, 97, 110, 103, 101]
/-- A world for the witness: the settled one, with the tables laid. -/
noncomputable def laidWorld (os : Os) : World :=
  let w := World.holding Tryd.prog os ⟨#[], #[], []⟩
  let n := w.heap.size
  { w with heap := ((((((((w.heap.modify 0 (relay (Lib.pow10Tab.map fun z => Value.int .u64 z))).modify 1 (relay (Go.Pinned.utf8FirstZ.map fun z => Value.int .u8 (Int.ofNat z)))).modify 2
      (relay ((List.range 16).flatMap fun i => [Value.int .u8 (Lib.accLo i), Value.int .u8 (Lib.accHi i)]))).modify 4 (relay (db32.map fun z => Value.int .u8 z))).modify 5 (relay (db64.map fun z => Value.int .u8 z))).modify 6
      (relay [Value.iface 132 (.pointer (some ⟨n, 0, none⟩))])).modify 7 (relay [Value.iface 132 (.pointer (some ⟨n + 1, 0, none⟩))])).push (.cells #[.string ⟨synB.toArray⟩] 134 (0, 0))).push (.cells #[.string ⟨rngB.toArray⟩] 134 (0, 0)) }
def wArgs : Array Value := #[.agg #[.int .i64 0, .int .i64 0, .string ⟨#[]⟩, .slice none 0 0, .slice none 0 0], .slice none 0 0, .int .u16 0]
theorem laid_met (os : Os) : laidMet Tryd.prog Rows.jsonBlanksRow.laid ((laidWorld os).forCall (fun _ _ => 0) ⟨#[], wArgs, []⟩).memory :=
  laidMet_of_run' 8 (by kernel_rfl) (by kernel_rfl)
theorem reads (os : Os) {H : Type} (enc : TypeId × Value → H) : ∃ places, DataW.whole enc Tryd.prog ((laidWorld os).forCall (fun _ _ => 0) ⟨#[], wArgs, []⟩).memory Tryd.f6.params.toList Rows.jsonBlanksSpec.vars false wArgs.toList 8 =
    some ([.agg [.lit (.int .i64 0), .lit (.int .i64 0), .lit (.string []), .nil, .nil], .nil, .lit (.int .u16 0)], [], places) :=
  ⟨[], by kernel_rfl⟩

theorem lifted (os : Os) (started : os.Started) (H : Type) (enc : TypeId × Value → H) (F : Stop.Interp) :
    ReturnsInHanded {} Tryd.checked os 6 .any ((OpenSpec.ofChange Rows.jsonBlanksSpec).preRow enc Tryd.prog Tryd.f6 Rows.jsonBlanksRow.domain false Rows.jsonBlanksRow.laid) (((OpenSpec.ofChange Rows.jsonBlanksSpec).at F).post enc Tryd.prog Tryd.f6 false true false false) := by
  obtain ⟨places, hx⟩ := reads os enc
  refine returnsInHanded_of_row (C := Tryd.checked) (s := OpenSpec.ofChange Rows.jsonBlanksSpec) own started (by kernel_rfl) Tryd.func6
    (witness_row_at (enc := enc) (C := Tryd.checked) false (laidWorld os) wArgs rfl (by kernel_rfl) (by kernel_rfl) (by kernel_rfl)
      (OpenSpec.preRow_of_cond 8 hx (by kernel_rfl) (fun k hk => by cases hk) (by kernel_rfl) (laid_met os))) ?_
  intro W base args ds gs before hval hW _ _ _ hL _ _
  exact contract H enc W base args ds gs before hval hW hL

theorem said : Rows.JsonBlanksSaid :=
  OpenClaim.holds_of_cond 6 Tryd.f6 rfl rfl rfl rfl rfl rfl rfl ⟨rfl, rfl, rfl, rfl, rfl⟩ rfl rfl rfl rfl rfl (by kernel_rfl) Tryd.func6 (by kernel_rfl)
    (of_decide_eq_true (by kernel_rfl)) (by unfold Func.isWrapper; first | (rw [if_pos (by decide +kernel)]; kernel_rfl) | (rw [if_neg (by decide +kernel)]; exact ⟨rfl, rfl⟩))
    (fun os started H enc _ F => by rw [OpenClaim.pre_eq_preRow]; exact lifted os started H enc F)

theorem plain (f : FuncId) (fn : Func) (hf : Tryd.pinned.checked.prog.funcNamed "cascade/cascadelaw05.JsonBlanks" = some f) (hfn : Tryd.pinned.checked.prog.funcs[f]? = some fn) :
    true = Tryd.pinned.checked.prog.looks [] ∧ ∀ (j : Nat) t, fn.params[j]? = some t → Tryd.pinned.checked.prog.wantsStandIn t = false := by
  obtain rfl : f = 6 := Option.some.inj ((show Tryd.prog.funcNamed "cascade/cascadelaw05.JsonBlanks" = some 6 by kernel_rfl).symm.trans hf) |>.symm
  obtain rfl : fn = Tryd.f6 := (Option.some.inj (Tryd.func6.symm.trans hfn)).symm
  refine ⟨by kernel_rfl, fun j t ht => ?_⟩
  rw [Tryd.params6] at ht
  have hm := Array.mem_of_getElem? ht
  simp at hm
  rcases hm with rfl | rfl | rfl
  · exact (show Tryd.prog.wantsStandIn 25 = false by kernel_rfl)
  · exact (show Tryd.prog.wantsStandIn 36 = false by kernel_rfl)
  · exact (show Tryd.prog.wantsStandIn 37 = false by kernel_rfl)

/-- The card. -/
theorem card : Rows.JsonBlanksCardSaid :=
  Claim7.holds_tied_plain_at .later [] _ _ _ _ said (fun _ h => by cases h) (by kernel_rfl) (fun _ h => by cases h) jsonBlanks_row_tie rfl ⟨rfl, rfl⟩ (by kernel_rfl) rfl plain (by kernel_rfl)
#print axioms card

end Go.Proofs.YtjdppboomglenaaDoor.jsonBlanks
