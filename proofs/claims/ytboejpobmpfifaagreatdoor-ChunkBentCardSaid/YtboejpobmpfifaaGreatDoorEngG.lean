/-
  The evaluator is sound: what it answers the program does, in every world that fits. No condition.
-/
import Derived.Test.YtboejpobmpfifaaGreatDoorEngL
import Derived.Scope
namespace Go.Proofs.YtboejpobmpfifaaGreatDoor.Eng
open Go Go.RowKit
set_option linter.unusedSimpArgs false

section
variable {P : Program} {B : Nat} {w0 : World} {S : Sit}

def exRel : AExit → Exit → Prop
  | .norm, .normal => True
  | .exit i, .exit j => i = j
  | .ret, .ret => True
  | _, _ => False

def PostC (B : Nat) (w0 : World) (S : Sit) (n : Nat) (r : AExit × Env × St) (ex : Exit) (a' : Act) (w' : World) : Prop :=
  ∃ S', S'.w = w' ∧ S'.st = r.2.2 ∧ Inv B w0 S' ∧ Ext S S' ∧ EnvOk S' r.2.1 a' ∧ n ≤ a'.tmps.size ∧ a'.defers = [] ∧ exRel r.1 ex

theorem PostC.ext {S S1 : Sit} (h : Ext S S1) {n : Nat} {r : AExit × Env × St} {ex : Exit} {a : Act} {w : World} (k : PostC B w0 S1 n r ex a w) : PostC B w0 S n r ex a w := by
  obtain ⟨S', h1, h2, h3, h4, h5⟩ := k
  exact ⟨S', h1, h2, h3, h.trans h4, h5⟩

/-- The rounds of a loop, from the head of one. -/
def LoopWp (P : Program) (c : Code) (Q : Exit → Act → World → Prop) (a : Act) (w : World) : Prop :=
  ∀ (b : Frame) (k : List Item) (cs : List Frame), ∃ e a' w', Q e a' w' ∧ Arrives P (lone (b.at a (.code c :: .inLoop c :: k)) cs w) b k cs e a' w'

def WpOf (P : Program) : Code → (Exit → Act → World → Prop) → Act → World → Prop
  | .loop c, Q, a, w => LoopWp P c Q a w
  | c, Q, a, w => c.wp P Q a w

theorem WpOf.wp {c : Code} {Q : Exit → Act → World → Prop} {a : Act} {w : World} (h : WpOf P c Q a w) : c.wp P Q a w := by
  cases c with
  | loop c =>
    intro b k cs
    obtain ⟨e, a', w', hq, harr⟩ := h b k cs
    exact ⟨e, a', w', hq, .of_steps (.one step_loop) harr⟩
  | _ => exact h

theorem LoopWp.round {c : Code} {Q : Exit → Act → World → Prop} {a : Act} {w : World} (h : c.wp P (Exit.then (fun a' w' => LoopWp P c Q a' w') Q) a w) : LoopWp P c Q a w := by
  intro b k cs
  obtain ⟨e, a₁, w₁, hq, harr⟩ := h b (.inLoop c :: k) cs
  cases e with
  | normal =>
    obtain ⟨e₂, a₂, w₂, hq₂, harr₂⟩ := hq b k cs
    exact ⟨e₂, a₂, w₂, hq₂, .of_steps (Steps.trans harr (.one step_inLoop)) harr₂⟩
  | exit id => exact ⟨_, a₁, w₁, hq, .pass (x := .inLoop c) rfl (fun _ _ => .inl (by simp)) harr⟩
  | goto l => exact ⟨_, a₁, w₁, hq, .pass (x := .inLoop c) rfl (fun _ _ => .inl (by simp)) harr⟩
  | ret => exact ⟨_, a₁, w₁, hq, .pass (x := .inLoop c) rfl (fun _ _ => .inl (by simp)) harr⟩
  | panic ch => exact ⟨_, a₁, w₁, hq, .pass (x := .inLoop c) rfl (fun _ _ => .inl (by simp)) harr⟩
  | outgrown => exact ⟨_, a₁, w₁, hq, .pass (x := .inLoop c) rfl (fun _ _ => .inl (by simp)) harr⟩

def SoundC (P : Program) (B : Nat) (w0 : World) (c : ACode) (env : Env) (s : St) (r : AExit × Env × St) : Prop :=
  okC c = true → ∀ (h : Hint) (n : Nat) (code : Code) (S : Sit) (a : Act), cBody P h n code = flatC c → S.st = s → Inv B w0 S → EnvOk S env a → n ≤ a.tmps.size → a.defers = [] →
    WpOf P code (PostC B w0 S n r) a S.w

theorem seg_of_mapM {h : Hint} {ops : Array Oper} {n : Nat} : ∀ (l : List Oper) (k : Nat) (fs : List FRow), l.mapM (cRow P h ops n) = some fs →
    (∀ j o, l[j]? = some o → ops[k + j]? = some o) → Seg P h ops n (List.range' k l.length) fs
  | [], k, fs, hm, _ => by simp at hm; subst hm; trivial
  | o :: l, k, fs, hm, hk => by
    simp only [List.mapM_cons, Option.bind_eq_bind, Option.bind_eq_some_iff, Option.pure_def, Option.some.injEq] at hm
    obtain ⟨f, hf, fs', hfs, rfl⟩ := hm
    simp only [List.length_cons, List.range'_succ]
    refine ⟨⟨o, by simpa using hk 0 o rfl, hf⟩, seg_of_mapM l (k + 1) fs' hfs ?_⟩
    intro j o' hj
    have := hk (j + 1) o' (by simpa using hj)
    rwa [show k + (j + 1) = k + 1 + j by omega] at this

/-! ### The code that a flat code came of -/
theorem cBody_skip {h : Hint} {n : Nat} {code : Code} (hb : cBody P h n code = .skip) : code = .skip ∨ ∃ l, code = .label l := by
  unfold cBody at hb
  split at hb
  case h_1 => exact .inl rfl
  case h_2 => exact .inr ⟨_, rfl⟩
  all_goals (repeat' split at hb) <;> cases hb

theorem cBody_reg {h : Hint} {n : Nat} {code : Code} {fs : List FRow} (hb : cBody P h n code = .reg fs) : ∃ id ops, code = .region id ops false ∧ ops.toList.mapM (cRow P h ops n) = some fs := by
  unfold cBody at hb
  split at hb
  case h_3 =>
    split at hb
    · cases hb; exact ⟨_, _, rfl, ‹_›⟩
    · cases hb
  all_goals (repeat' split at hb) <;> cases hb

theorem cBody_regD {h : Hint} {n : Nat} {code : Code} {aps : List (Nat × Nat)} {fs : List FRow} (hb : cBody P h n code = .regD aps fs) :
    ∃ id ops, code = .region id ops true ∧ ops.toList.mapM (cRow P h ops n) = some fs ∧ P.follows .mixedOrders = true ∧ drawOk ops fs aps = true := by
  unfold cBody at hb
  split at hb
  case h_4 =>
    split at hb
    · split at hb
      · rename_i hc
        cases hb
        simp only [Bool.and_eq_true] at hc
        exact ⟨_, _, rfl, ‹_›, hc.1, hc.2⟩
      · cases hb
    · cases hb
  all_goals (repeat' split at hb) <;> cases hb

theorem cBody_seq {h : Hint} {n : Nat} {code : Code} {x y : FCode} (hb : cBody P h n code = .seq x y) : ∃ a b, code = .seq a b ∧ cBody P h n a = x ∧ cBody P h n b = y := by
  unfold cBody at hb
  split at hb
  case h_5 => cases hb; exact ⟨_, _, rfl, rfl, rfl⟩
  all_goals (repeat' split at hb) <;> cases hb

theorem cBody_cond {h : Hint} {n : Nat} {code : Code} {c : X} {x y : FCode} (hb : cBody P h n code = .cond c x y) :
    ∃ o a b, code = .cond o a b ∧ cX o = some c ∧ cBody P h n a = x ∧ cBody P h n b = y := by
  unfold cBody at hb
  split at hb
  case h_6 =>
    split at hb
    · cases hb; exact ⟨_, _, _, rfl, ‹_›, rfl, rfl⟩
    · cases hb
  all_goals (repeat' split at hb) <;> cases hb

theorem cBody_blk {h : Hint} {n : Nat} {code : Code} {i : Nat} {x : FCode} (hb : cBody P h n code = .blk i x) : ∃ a, code = .block i a ∧ cBody P h n a = x := by
  unfold cBody at hb
  split at hb
  case h_7 => cases hb; exact ⟨_, rfl, rfl⟩
  all_goals (repeat' split at hb) <;> cases hb

theorem cBody_loop {h : Hint} {n : Nat} {code : Code} {x : FCode} (hb : cBody P h n code = .loop x) : ∃ a, code = .loop a ∧ cBody P h n a = x := by
  unfold cBody at hb
  split at hb
  case h_8 => cases hb; exact ⟨_, rfl, rfl⟩
  all_goals (repeat' split at hb) <;> cases hb

theorem cBody_scope {h : Hint} {n : Nat} {code : Code} {x : FCode} (hb : cBody P h n code = .scope x) : ∃ a, code = .scope a ∧ cBody P h n a = x := by
  unfold cBody at hb
  split at hb
  case h_9 => cases hb; exact ⟨_, rfl, rfl⟩
  all_goals (repeat' split at hb) <;> cases hb

theorem cBody_exit {h : Hint} {n : Nat} {code : Code} {i : Nat} (hb : cBody P h n code = .exit i) : code = .exit i := by
  unfold cBody at hb
  split at hb
  case h_10 => cases hb; rfl
  all_goals (repeat' split at hb) <;> cases hb

theorem cBody_ret {h : Hint} {n : Nat} {code : Code} (hb : cBody P h n code = .ret) : code = .ret := by
  unfold cBody at hb
  split at hb
  case h_11 => rfl
  all_goals (repeat' split at hb) <;> cases hb

end
end Go.Proofs.YtboejpobmpfifaaGreatDoor.Eng
