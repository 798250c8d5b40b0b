/-
  What a call meets: lists of bytes. No condition.
-/
import Derived.Test.YtadpobnajjocnaaGreatDoorJRow
import Derived.Test.YtadpobnajjocnaaGreatDoorVF
namespace Go.Proofs.YtadpobnajjocnaaGreatDoor.Eng
open Go Go.RowKit Go.ChangeShapes Go.WideShapes Go.ChangeAt
set_option linter.unusedSimpArgs false
set_option linter.unusedVariables false
set_option maxRecDepth 100000

theorem u5 : Tryz.prog.underlying 5 = some (.int .u8) := by kernel_rfl
theorem u34 : Tryz.prog.underlying 34 = some (.slice 5) := by kernel_rfl
theorem is34 (x : V) : packT Tryz.prog 34 [x] = x := by
  unfold packT isAggT
  rw [u34]; rfl
theorem is5 (x : V) : packT Tryz.prog 5 [x] = x := by
  unfold packT isAggT
  rw [u5]; rfl
theorem ty_u8 {d : Nat} {t : TypeId} (ht : Tryz.prog.underlying t = some (.int .u8)) {vs : List V} (h : Ty Tryz.prog d t vs) : ∃ n : Int, vs = [.int .u8 n] ∧ 0 ≤ n ∧ n < 256 := by
  cases d with
  | zero => exact h.elim
  | succ d =>
    simp only [Ty, ht] at h
    obtain ⟨n, h1, h2⟩ := h
    have e1 : IntKind.u8.min = 0 := rfl
    have e2 : IntKind.u8.max = 255 := rfl
    simp [Lit.wf, e1, e2] at h2
    exact ⟨n, h1, h2.1, by omega⟩
theorem ty_u8s {d : Nat} {vs : List V} (h : Ty Tryz.prog d 34 vs) : ∃ L : List Int, (∀ n ∈ L, 0 ≤ n ∧ n < 256) ∧ vs = [.sl .no (u8L L)] := by
  cases d with
  | zero => exact h.elim
  | succ d =>
    simp only [Ty, u34] at h
    obtain ⟨xs, h1, h2, h3⟩ := h
    have : ∀ xs : List (List V), (∀ x ∈ xs, Ty Tryz.prog d 5 x) → ∃ L : List Int, (∀ n ∈ L, 0 ≤ n ∧ n < 256) ∧ xs.map (packT Tryz.prog 5) = u8L L := by
      intro xs
      induction xs with
      | nil => intro _; exact ⟨[], by simp, rfl⟩
      | cons x xs ih =>
        intro h
        obtain ⟨L, hL, hm⟩ := ih fun y hy => h y (by simp [hy])
        obtain ⟨n, rfl, hn⟩ := ty_u8 u5 (h x (by simp))
        refine ⟨n :: L, ?_, by rw [List.map_cons, is5, hm]; rfl⟩
        intro m hm
        rcases List.mem_cons.1 hm with rfl | hm
        · exact hn
        · exact hL m hm
    obtain ⟨L, hL, hm⟩ := this xs h3
    exact ⟨L, hL, by rw [h1, hm]⟩

end Go.Proofs.YtadpobnajjocnaaGreatDoor.Eng
