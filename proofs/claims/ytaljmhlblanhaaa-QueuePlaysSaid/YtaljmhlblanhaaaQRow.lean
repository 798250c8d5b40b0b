/-
  What a call meets: the arguments' types. No condition.
-/
import Derived.Test.YtaljmhlblanhaaaEngT
import Derived.Test.YtaljmhlblanhaaaRows
import Derived.Test.YtaljmhlblanhaaaQSpec1
import Derived.WalkKit
import Derived.ProofKit
import Derived.OpenShut
namespace Go.Proofs.Ytaljmhlblanhaaa.Eng
open Go Go.RowKit Go.ChangeShapes Go.WideShapes Go.ChangeAt
set_option linter.unusedSimpArgs false
set_option linter.unusedVariables false
set_option maxRecDepth 100000

theorem fitsG {B : Nat} {w0 : World} : Fits Try.prog B w0 G where
  tab f F h := tab_ok h
  prim f p hp args s r hr := by cases hp

theorem wf64 {n : Int} (h : (Lit.int .i64 n).wf = true) : -9223372036854775808 ≤ n ∧ n ≤ 9223372036854775807 := by
  have e1 : IntKind.i64.min = -9223372036854775808 := rfl
  have e2 : IntKind.i64.max = 9223372036854775807 := rfl
  simp [Lit.wf, e1, e2] at h
  exact h
theorem wf8 {n : Int} (h : (Lit.int .u8 n).wf = true) : 0 ≤ n ∧ n < 256 := by
  have e1 : IntKind.u8.min = 0 := rfl
  have e2 : IntKind.u8.max = 255 := rfl
  simp [Lit.wf, e1, e2] at h
  omega

theorem ty_int {d : Nat} {t : TypeId} {k : IntKind} (ht : Try.prog.underlying t = some (.int k)) {vs : List V} (h : Ty Try.prog d t vs) : ∃ n, vs = [.int k n] ∧ (Lit.int k n).wf = true := by
  cases d with
  | zero => exact h.elim
  | succ d =>
    simp only [Ty, ht] at h
    exact h
theorem ty_bool {d : Nat} {t : TypeId} (ht : Try.prog.underlying t = some .bool) {vs : List V} (h : Ty Try.prog d t vs) : ∃ b, vs = [.bool b] := by
  cases d with
  | zero => exact h.elim
  | succ d =>
    simp only [Ty, ht] at h
    exact h
theorem maxLen_le : maxLen ≤ 9223372036854775807 := by decide
theorem ty_str {d : Nat} {t : TypeId} (ht : Try.prog.underlying t = some .string) {vs : List V} (h : Ty Try.prog d t vs) : ∃ s : List UInt8, vs = [.str s] ∧ s.length ≤ 9223372036854775807 := by
  cases d with
  | zero => exact h.elim
  | succ d =>
    simp only [Ty, ht] at h
    obtain ⟨n, h1, h2⟩ := h
    exact ⟨n, h1, Nat.le_trans h2 maxLen_le⟩
theorem ty_slice {d : Nat} {t e : TypeId} (ht : Try.prog.underlying t = some (.slice e)) {vs : List V} (h : Ty Try.prog d t vs) :
    ∃ (d' : Nat) (xs : List (List V)), vs = [.sl .no (xs.map (packT Try.prog e))] ∧ xs.length ≤ 9223372036854775807 ∧ ∀ x ∈ xs, Ty Try.prog d' e x := by
  cases d with
  | zero => exact h.elim
  | succ d =>
    simp only [Ty, ht] at h
    obtain ⟨xs, h1, h2, h3⟩ := h
    exact ⟨d, xs, h1, Nat.le_trans h2 maxLen_le, h3⟩
theorem pack_one {t : TypeId} (h : isAggT Try.prog t = false) (v : V) : packT Try.prog t [v] = v := by
  unfold packT; rw [h]; rfl
theorem pack_agg {t : TypeId} (h : isAggT Try.prog t = true) (v : List V) : packT Try.prog t v = .agg v := by
  unfold packT; rw [h]; rfl
theorem ints_of {d : Nat} {xs : List (List V)} (h : ∀ x ∈ xs, Ty Try.prog d 3 x) : ∃ l : List Int, xs.map (packT Try.prog 3) = l.map (V.int .i64) ∧ l.length = xs.length := by
  induction xs with
  | nil => exact ⟨[], rfl, rfl⟩
  | cons x xs ih =>
    obtain ⟨l, h1, h2⟩ := ih (fun y hy => h y (by simp [hy]))
    obtain ⟨n, rfl, _⟩ := ty_int Try.underlying3 (h x (by simp))
    exact ⟨n :: l, by simp [h1, pack_one (t := 3) (by kernel_rfl)], by simp [h2]⟩
end Go.Proofs.Ytaljmhlblanhaaa.Eng
