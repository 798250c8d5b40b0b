/-
 What a call meets: types. No condition.
-/
import Derived.Test.YtboejpobmpfifaaGreatDoorJRow
import Derived.Test.YtboejpobmpfifaaGreatDoorLTys
set_option linter.constructorNameAsVariable false
set_option linter.unusedSimpArgs false
set_option linter.unusedVariables false
namespace Go.Proofs.YtboejpobmpfifaaGreatDoor.Eng
open Go Go.RowKit Go.ChangeShapes Go.WideShapes Go.ChangeAt
set_option maxRecDepth 100000
theorem c9 : Tryz.prog.cellsOf 9 = 1 := by kernel_rfl
theorem Ap {vs : List V} {off : Nat} {x : V} (h : (vs.drop off).take 1 = [x]) : vs[off]? = some x := by
 have := congrArg (·[0]?) h
 simpa [List.getElem?_take, List.getElem?_drop] using this
theorem zZ {d : Nat} {t : TypeId} {fs : Array Field} {vs : List V} (hu : Tryz.prog.underlying t = some (.struct fs)) (h : Ty Tryz.prog (d + 1) t vs) {u off : Nat} (hm : (u, off) ∈ fs.toList.map (fun f => (f.type, f.offset))) :
  vs.length = Tryz.prog.cellsOf t ∧ Ty Tryz.prog d u ((vs.drop off).take (Tryz.prog.cellsOf u)) := by
 simp only [Ty, hu] at h
 obtain ⟨f, hf, he⟩ := List.mem_map.1 hm
 simp only [Prod.mk.injEq] at he
 obtain ⟨rfl, rfl⟩ := he
 exact ⟨h.1, h.2 f hf⟩
