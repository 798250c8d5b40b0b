/-
  What a call meets: types. No condition.
-/
import Derived.Test.YtboejpobmpfifaaGreatDoorJRow
import Derived.Test.YtboejpobmpfifaaGreatDoorLTys
namespace Go.Proofs.YtboejpobmpfifaaGreatDoor.Eng
open Go Go.RowKit Go.ChangeShapes Go.WideShapes Go.ChangeAt
set_option linter.unusedSimpArgs false
set_option linter.unusedVariables false
set_option linter.constructorNameAsVariable false
set_option maxRecDepth 100000

theorem c9 : Tryz.prog.cellsOf 9 = 1 := by kernel_rfl
theorem c90 : Tryz.prog.cellsOf 90 = 2 := by kernel_rfl
theorem u90 : ∃ fs, Tryz.prog.underlying 90 = some (.struct fs) ∧ fs.toList.map (fun f => (f.type, f.offset)) = [(9, 0), (9, 1)] := ⟨_, Tryz.underlying90, by rfl⟩
theorem one_of {vs : List V} {off : Nat} {x : V} (h : (vs.drop off).take 1 = [x]) : vs[off]? = some x := by
  have := congrArg (·[0]?) h
  simpa [List.getElem?_take, List.getElem?_drop] using this
theorem fld_ty {d : Nat} {t : TypeId} {fs : Array Field} {vs : List V} (hu : Tryz.prog.underlying t = some (.struct fs)) (h : Ty Tryz.prog (d + 1) t vs) {u off : Nat} (hm : (u, off) ∈ fs.toList.map (fun f => (f.type, f.offset))) :
    vs.length = Tryz.prog.cellsOf t ∧ Ty Tryz.prog d u ((vs.drop off).take (Tryz.prog.cellsOf u)) := by
  simp only [Ty, hu] at h
  obtain ⟨f, hf, he⟩ := List.mem_map.1 hm
  simp only [Prod.mk.injEq] at he
  obtain ⟨rfl, rfl⟩ := he
  exact ⟨h.1, h.2 f hf⟩

theorem is90 (x : List V) : packT Tryz.prog 90 x = .agg x := by
  obtain ⟨fs, hu, _⟩ := u90
  unfold packT isAggT
  rw [hu]; rfl
theorem ty_type : ∀ (fuel : Nat) (x : List V), Ty Tryz.prog fuel 90 x → ∃ n w : List UInt8, packT Tryz.prog 90 x = tyV n w
  | 0, _, h => h.elim
  | d + 1, x, h => by
    obtain ⟨fs, hu, hm⟩ := u90
    obtain ⟨hl, h0⟩ := fld_ty hu h (u := 9) (off := 0) (by rw [hm]; simp)
    obtain ⟨_, h1⟩ := fld_ty hu h (u := 9) (off := 1) (by rw [hm]; simp)
    rw [c90] at hl
    rw [c9] at h0 h1
    obtain ⟨n, e0, _⟩ := ty_str u9 h0
    obtain ⟨w, e1, _⟩ := ty_str u9 h1
    refine ⟨n, w, ?_⟩
    have : x = [.str n, .str w] := by
      match x, hl with
      | [v0, v1], _ =>
        have a := one_of e0
        have b := one_of e1
        simp at a b
        simp [a, b]
    rw [this, is90]; rfl

end Go.Proofs.YtboejpobmpfifaaGreatDoor.Eng
