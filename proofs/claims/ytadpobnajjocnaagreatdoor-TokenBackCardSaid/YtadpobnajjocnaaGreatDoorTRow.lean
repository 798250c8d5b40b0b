/-
  What a call meets: lists of tokens. No condition.
-/
import Derived.Test.YtadpobnajjocnaaGreatDoorJRow
import Derived.Test.YtadpobnajjocnaaGreatDoorTPlains
namespace Go.Proofs.YtadpobnajjocnaaGreatDoor.Eng
open Go Go.RowKit Go.ChangeShapes Go.WideShapes Go.ChangeAt
set_option linter.unusedSimpArgs false
set_option linter.unusedVariables false
set_option linter.constructorNameAsVariable false
set_option maxRecDepth 100000

theorem c3 : Tryz.prog.cellsOf 3 = 1 := by kernel_rfl
theorem c9 : Tryz.prog.cellsOf 9 = 1 := by kernel_rfl
theorem c38 : Tryz.prog.cellsOf 38 = 3 := by kernel_rfl
theorem u3 : Tryz.prog.underlying 3 = some (.int .i64) := by kernel_rfl
theorem u23 : Tryz.prog.underlying 23 = some (.slice 38) := by kernel_rfl
theorem u38 : ∃ fs, Tryz.prog.underlying 38 = some (.struct fs) ∧ fs.toList.map (fun f => (f.type, f.offset)) = [(3, 0), (9, 1), (3, 2)] := ⟨_, Tryz.underlying38, by rfl⟩

theorem ty_int {d : Nat} {t : TypeId} (ht : Tryz.prog.underlying t = some (.int .i64)) {vs : List V} (h : Ty Tryz.prog d t vs) : ∃ n, vs = [.int .i64 n] := by
  cases d with
  | zero => exact h.elim
  | succ d =>
    simp only [Ty, ht] at h
    obtain ⟨n, h1, h2⟩ := h
    exact ⟨n, h1⟩
theorem one_of {vs : List V} {off : Nat} {x : V} (h : (vs.drop off).take 1 = [x]) : vs[off]? = some x := by
  have := congrArg (·[0]?) h
  simpa [List.getElem?_take, List.getElem?_drop] using this
theorem is38 (x : List V) : packT Tryz.prog 38 x = .agg x := by
  obtain ⟨fs, hu, _⟩ := u38
  unfold packT isAggT
  rw [hu]; rfl
theorem is23 (x : V) : packT Tryz.prog 23 [x] = x := by
  unfold packT isAggT
  rw [u23]; rfl
theorem fld_ty {d : Nat} {t : TypeId} {fs : Array Field} {vs : List V} (hu : Tryz.prog.underlying t = some (.struct fs)) (h : Ty Tryz.prog (d + 1) t vs) {u off : Nat} (hm : (u, off) ∈ fs.toList.map (fun f => (f.type, f.offset))) :
    vs.length = Tryz.prog.cellsOf t ∧ Ty Tryz.prog d u ((vs.drop off).take (Tryz.prog.cellsOf u)) := by
  simp only [Ty, hu] at h
  obtain ⟨f, hf, he⟩ := List.mem_map.1 hm
  simp only [Prod.mk.injEq] at he
  obtain ⟨rfl, rfl⟩ := he
  exact ⟨h.1, h.2 f hf⟩
theorem list3 {vs : List V} (h : vs.length = 3) {a b c : V} (h0 : vs[0]? = some a) (h1 : vs[1]? = some b) (h2 : vs[2]? = some c) : vs = [a, b, c] := by
  match vs, h with
  | [v0, v1, v2], _ => simp at h0 h1 h2; simp [h0, h1, h2]

theorem tok_of : ∀ (fuel : Nat) (x : List V), Ty Tryz.prog fuel 38 x → ∃ t : Tok, packT Tryz.prog 38 x = tokV t
  | 0, _, h => h.elim
  | d + 1, x, h => by
    obtain ⟨fs, hu, hm⟩ := u38
    obtain ⟨hl, h0⟩ := fld_ty hu h (u := 3) (off := 0) (by rw [hm]; simp)
    obtain ⟨_, h1⟩ := fld_ty hu h (u := 9) (off := 1) (by rw [hm]; simp)
    obtain ⟨_, h2⟩ := fld_ty hu h (u := 3) (off := 2) (by rw [hm]; simp)
    rw [c38] at hl
    rw [c3] at h0 h2
    rw [c9] at h1
    obtain ⟨k, e0⟩ := ty_int u3 h0
    obtain ⟨s, e1, _⟩ := ty_str u9 h1
    obtain ⟨a, e2⟩ := ty_int u3 h2
    refine ⟨⟨k, s, a⟩, ?_⟩
    rw [list3 hl (one_of e0) (one_of e1) (one_of e2), is38]
    rfl

theorem ty_toks {d : Nat} {vs : List V} (h : Ty Tryz.prog d 23 vs) : ∃ A : List Tok, vs = [.sl .no (tokVs A)] := by
  cases d with
  | zero => exact h.elim
  | succ d =>
    simp only [Ty, u23] at h
    obtain ⟨xs, h1, h2, h3⟩ := h
    have : ∀ xs : List (List V), (∀ x ∈ xs, Ty Tryz.prog d 38 x) → ∃ A : List Tok, xs.map (packT Tryz.prog 38) = tokVs A := by
      intro xs
      induction xs with
      | nil => intro _; exact ⟨[], rfl⟩
      | cons x xs ih =>
        intro h
        obtain ⟨A, hA⟩ := ih fun y hy => h y (by simp [hy])
        obtain ⟨t, ht⟩ := tok_of d x (h x (by simp))
        exact ⟨t :: A, by rw [List.map_cons, ht, hA]; rfl⟩
    obtain ⟨A, hA⟩ := this xs h3
    exact ⟨A, by rw [h1, hA]⟩

end Go.Proofs.YtadpobnajjocnaaGreatDoor.Eng
