/-
 What a call meets: askings of a reader. No condition.
-/
import Derived.Test.YtboejpobmpfifaaGreatDoorLRow
import Derived.Test.YtboejpobmpfifaaGreatDoorLAsks
set_option linter.constructorNameAsVariable false
set_option linter.unusedSimpArgs false
set_option linter.unusedVariables false
namespace Go.Proofs.YtboejpobmpfifaaGreatDoor.Eng
open Go Go.RowKit Go.ChangeShapes Go.WideShapes Go.ChangeAt
set_option maxRecDepth 100000
theorem c3 : Tryz.prog.cellsOf 3 = 1 := by kernel_rfl
theorem c5 : Tryz.prog.cellsOf 5 = 1 := by kernel_rfl
theorem c27 : Tryz.prog.cellsOf 27 = 1 := by kernel_rfl
theorem c107 : Tryz.prog.cellsOf 107 = 4 := by kernel_rfl
theorem u3 : Tryz.prog.underlying 3 = some (.int .i64) := by kernel_rfl
theorem u5 : Tryz.prog.underlying 5 = some (.int .u8) := by kernel_rfl
theorem u27 : Tryz.prog.underlying 27 = some (.int .i64) := by kernel_rfl
theorem u97 : Tryz.prog.underlying 97 = some (.slice 107) := by kernel_rfl
theorem Lo : ∃ fs, Tryz.prog.underlying 107 = some (.struct fs) ∧ fs.toList.map (fun f => (f.type, f.offset)) = [(5, 0), (9, 1), (3, 2), (27, 3)] := ⟨_, Tryz.underlying107, by rfl⟩
theorem AI {k : IntKind} {d : Nat} {t : TypeId} (ht : Tryz.prog.underlying t = some (.int k)) {vs : List V} (h : Ty Tryz.prog d t vs) : ∃ n, vs = [.int k n] ∧ k.min ≤ n := by
 cases d with
 | zero => exact h.elim
 | succ d =>
  simp only [Ty, ht] at h
  obtain ⟨n, h1, h2⟩ := h
  simp only [Lit.wf, Bool.and_eq_true, decide_eq_true_eq] at h2
  exact ⟨n, h1, h2.1⟩
theorem La (x : List V) : iV Tryz.prog 107 x = .agg x := by
 obtain ⟨fs, hu, _⟩ := Lo
 unfold iV kF
 rw [hu]; rfl
theorem is97 (x : V) : iV Tryz.prog 97 [x] = x := by
 unfold iV kF
 rw [u97]; rfl
theorem Ld {vs : List V} (h : vs.length = 4) {a b c d : V} (h0 : vs[0]? = some a) (h1 : vs[1]? = some b) (h2 : vs[2]? = some c) (h3 : vs[3]? = some d) : vs = [a, b, c, d] := by
 match vs, h with
 | [v0, v1, v2, v3], _ => simp at h0 h1 h2 h3; simp [h0, h1, h2, h3]
theorem Li : ∀ (fuel : Nat) (x : List V), Ty Tryz.prog fuel 107 x → ∃ o : Aop, iV Tryz.prog 107 x = opV o ∧ 0 ≤ o.k
 | 0, _, h => h.elim
 | d + 1, x, h => by
  obtain ⟨fs, hu, hm⟩ := Lo
  obtain ⟨hl, h0⟩ := zZ hu h (u := 5) (off := 0) (by rw [hm]; simp)
  obtain ⟨_, h1⟩ := zZ hu h (u := 9) (off := 1) (by rw [hm]; simp)
  obtain ⟨_, h2⟩ := zZ hu h (u := 3) (off := 2) (by rw [hm]; simp)
  obtain ⟨_, h3⟩ := zZ hu h (u := 27) (off := 3) (by rw [hm]; simp)
  rw [c107] at hl
  rw [c5] at h0
  rw [c9] at h1
  rw [c3] at h2
  rw [c27] at h3
  obtain ⟨k, e0, hk⟩ := AI u5 h0
  obtain ⟨s, e1, _⟩ := Im u9 h1
  obtain ⟨n, e2, _⟩ := AI u3 h2
  obtain ⟨e, e3, _⟩ := AI u27 h3
  refine ⟨⟨k, s, n, e⟩, ?_, ?_⟩
  ·rw [Ld hl (Ap e0) (Ap e1) (Ap e2) (Ap e3), La]
   rfl
  ·have : IntKind.u8.min = 0 := by decide
   rw [this] at hk
   exact hk
theorem KQ {d : Nat} {vs : List V} (h : Ty Tryz.prog d 97 vs) : ∃ A : List Aop, vs = [.sl .no (A.map opV)] ∧ ∀ o ∈ A, 0 ≤ o.k := by
 cases d with
 | zero => exact h.elim
 | succ d =>
  simp only [Ty, u97] at h
  obtain ⟨xs, h1, h2, h3⟩ := h
  have : ∀ xs : List (List V), (∀ x ∈ xs, Ty Tryz.prog d 107 x) → ∃ A : List Aop, xs.map (iV Tryz.prog 107) = A.map opV ∧ ∀ o ∈ A, 0 ≤ o.k := by
   intro xs
   induction xs with
   | nil => intro _; exact ⟨[], rfl, by simp⟩
   | cons x xs ih =>
    intro h
    obtain ⟨A, hA, hk⟩ := ih fun y hy => h y (by simp [hy])
    obtain ⟨t, ht, h0⟩ := Li d x (h x (by simp))
    refine ⟨t :: A, by rw [List.map_cons, ht, hA]; rfl, ?_⟩
    intro o ho
    rcases List.mem_cons.1 ho with rfl | ho
    ·exact h0
    ·exact hk o ho
  obtain ⟨A, hA, hk⟩ := this xs h3
  exact ⟨A, by rw [h1, hA], hk⟩
