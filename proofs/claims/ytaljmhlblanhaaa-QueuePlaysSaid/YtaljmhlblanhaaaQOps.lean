/-
  What a call meets: a list of calls. No condition.
-/
import Derived.Test.YtaljmhlblanhaaaQRow
import Derived.Test.YtaljmhlblanhaaaQSoon3
namespace Go.Proofs.Ytaljmhlblanhaaa.Eng
open Go Go.RowKit Go.ChangeShapes Go.WideShapes Go.ChangeAt
set_option linter.unusedSimpArgs false
set_option linter.unusedVariables false
set_option maxRecDepth 100000

theorem c3 : Try.prog.cellsOf 3 = 1 := by kernel_rfl
theorem c4 : Try.prog.cellsOf 4 = 1 := by kernel_rfl
theorem c9 : Try.prog.cellsOf 9 = 1 := by kernel_rfl
theorem c29 : Try.prog.cellsOf 29 = 3 := by kernel_rfl
theorem u29 : ∃ fs, Try.prog.underlying 29 = some (.struct fs) ∧ fs.toList.map (fun f => (f.type, f.offset)) = [(4, 0), (3, 1), (9, 2)] := ⟨_, Try.underlying29, by rfl⟩

theorem one_of {vs : List V} {off : Nat} {x : V} (h : (vs.drop off).take 1 = [x]) : vs[off]? = some x := by
  have := congrArg (·[0]?) h
  simpa [List.getElem?_take, List.getElem?_drop] using this

theorem fld_ty {d : Nat} {t : TypeId} {fs : Array Field} {vs : List V} (hu : Try.prog.underlying t = some (.struct fs)) (h : Ty Try.prog (d + 1) t vs) {u off : Nat} (hm : (u, off) ∈ fs.toList.map (fun f => (f.type, f.offset))) :
    vs.length = Try.prog.cellsOf t ∧ Ty Try.prog d u ((vs.drop off).take (Try.prog.cellsOf u)) := by
  simp only [Ty, hu] at h
  obtain ⟨f, hf, he⟩ := List.mem_map.1 hm
  simp only [Prod.mk.injEq] at he
  obtain ⟨rfl, rfl⟩ := he
  exact ⟨h.1, h.2 f hf⟩

theorem op_of {d : Nat} {x : List V} (h : Ty Try.prog d 29 x) : ∃ o : OP, packT Try.prog 29 x = opV o ∧ -9223372036854775808 ≤ o.2.1 ∧ o.2.1 ≤ 9223372036854775807 ∧ o.2.2.length ≤ 9223372036854775807 := by
  cases d with
  | zero => exact h.elim
  | succ d =>
    obtain ⟨fs, hu, hf⟩ := u29
    obtain ⟨hlen, h0⟩ := fld_ty (u := 4) (off := 0) hu h (by rw [hf]; simp)
    obtain ⟨_, h1⟩ := fld_ty (u := 3) (off := 1) hu h (by rw [hf]; simp)
    obtain ⟨_, h2⟩ := fld_ty (u := 9) (off := 2) hu h (by rw [hf]; simp)
    rw [c29] at hlen
    rw [c4] at h0
    rw [c3] at h1
    rw [c9] at h2
    obtain ⟨b, e0⟩ := ty_bool Try.underlying4 h0
    obtain ⟨n, e1, n0⟩ := ty_int Try.underlying3 h1
    obtain ⟨s, e2, s0⟩ := ty_str Try.underlying9 h2
    have e0' := one_of e0
    have e1' := one_of e1
    have e2' := one_of e2
    refine ⟨(b, n, s), ?_, (wf64 n0).1, (wf64 n0).2, s0⟩
    rw [pack_agg (by kernel_rfl)]
    match x, hlen with
    | [v0, v1, v2], _ =>
      simp at e0' e1' e2'
      subst e0' e1' e2'
      rfl

theorem ops_of {d : Nat} {xs : List (List V)} (h : ∀ x ∈ xs, Ty Try.prog d 29 x) : ∃ l : List OP, xs.map (packT Try.prog 29) = opsv l ∧ l.length = xs.length ∧ ∀ o ∈ l, -9223372036854775808 ≤ o.2.1 ∧ o.2.1 ≤ 9223372036854775807 ∧ o.2.2.length ≤ 9223372036854775807 := by
  induction xs with
  | nil => exact ⟨[], rfl, rfl, fun o ho => by cases ho⟩
  | cons x xs ih =>
    obtain ⟨l, h1, h2, h3⟩ := ih (fun y hy => h y (by simp [hy]))
    obtain ⟨o, e, ho⟩ := op_of (h x (by simp))
    refine ⟨o :: l, by simp [h1, e, opsv], by simp [h2], ?_⟩
    intro o' ho'
    simp only [List.mem_cons] at ho'
    rcases ho' with rfl | ho'
    · exact ho
    · exact h3 o' ho'
end Go.Proofs.Ytaljmhlblanhaaa.Eng
