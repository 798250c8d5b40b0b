/-
  What a call meets: a payload, a number, a value. No condition.
-/
import Derived.Test.YtboejpobmpfifaaGreatDoorVRow
import Derived.Test.YtboejpobmpfifaaGreatDoorDFs
namespace Go.Proofs.YtboejpobmpfifaaGreatDoor.Eng
open Go Go.RowKit Go.ChangeShapes Go.WideShapes Go.ChangeAt
set_option linter.unusedSimpArgs false
set_option linter.unusedVariables false
set_option linter.constructorNameAsVariable false
set_option maxRecDepth 100000

theorem u5 : Tryz.prog.underlying 5 = some (.int .u8) := by kernel_rfl
theorem ty_u8 {d : Nat} {t : TypeId} (ht : Tryz.prog.underlying t = some (.int .u8)) {vs : List V} (h : Ty Tryz.prog d t vs) : ∃ n : Nat, vs = [.int .u8 (n : Int)] ∧ n < 256 := by
  cases d with
  | zero => exact h.elim
  | succ d =>
    simp only [Ty, ht] at h
    obtain ⟨n, h1, h2⟩ := h
    have e1 : IntKind.u8.min = 0 := rfl
    have e2 : IntKind.u8.max = 255 := rfl
    simp [Lit.wf, e1, e2] at h2
    exact ⟨n.toNat, by rw [h1, Int.toNat_of_nonneg h2.1], by omega⟩
theorem is5 (x : V) : packT Tryz.prog 5 [x] = x := by
  unfold packT isAggT
  rw [u5]; rfl

end Go.Proofs.YtboejpobmpfifaaGreatDoor.Eng
