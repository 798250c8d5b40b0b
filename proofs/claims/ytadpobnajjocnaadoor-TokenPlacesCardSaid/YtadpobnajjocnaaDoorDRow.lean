/-
  What a call meets: numbers of a byte, and of two. No condition.
-/
import Derived.Test.YtadpobnajjocnaaDoorJRow
namespace Go.Proofs.YtadpobnajjocnaaDoor.Eng
open Go Go.RowKit Go.ChangeShapes Go.WideShapes Go.ChangeAt
set_option linter.unusedSimpArgs false
set_option linter.unusedVariables false
set_option maxRecDepth 100000

theorem u5 : Tryd.prog.underlying 5 = some (.int .u8) := by kernel_rfl
theorem u22 : Tryd.prog.underlying 22 = some (.int .u16) := by kernel_rfl
theorem is5 (x : V) : packT Tryd.prog 5 [x] = x := by
  unfold packT isAggT
  rw [u5]; rfl
theorem is22 (x : V) : packT Tryd.prog 22 [x] = x := by
  unfold packT isAggT
  rw [u22]; rfl
theorem ty_u8 {d : Nat} {t : TypeId} (ht : Tryd.prog.underlying t = some (.int .u8)) {vs : List V} (h : Ty Tryd.prog d t vs) : ∃ n : Nat, vs = [.int .u8 (n : Int)] ∧ n < 256 := by
  cases d with
  | zero => exact h.elim
  | succ d =>
    simp only [Ty, ht] at h
    obtain ⟨n, h1, h2⟩ := h
    have e1 : IntKind.u8.min = 0 := rfl
    have e2 : IntKind.u8.max = 255 := rfl
    simp [Lit.wf, e1, e2] at h2
    exact ⟨n.toNat, by rw [h1, Int.toNat_of_nonneg h2.1], by omega⟩
theorem ty_u16 {d : Nat} {t : TypeId} (ht : Tryd.prog.underlying t = some (.int .u16)) {vs : List V} (h : Ty Tryd.prog d t vs) : ∃ n : Nat, vs = [.int .u16 (n : Int)] ∧ n < 65536 := by
  cases d with
  | zero => exact h.elim
  | succ d =>
    simp only [Ty, ht] at h
    obtain ⟨n, h1, h2⟩ := h
    have e1 : IntKind.u16.min = 0 := rfl
    have e2 : IntKind.u16.max = 65535 := rfl
    simp [Lit.wf, e1, e2] at h2
    exact ⟨n.toNat, by rw [h1, Int.toNat_of_nonneg h2.1], by omega⟩

end Go.Proofs.YtadpobnajjocnaaDoor.Eng
