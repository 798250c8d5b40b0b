/-
 What a call meets: types. No condition.
-/
import Derived.Test.YtboejpobmpfifaaGreatDoorJRow
import Derived.Test.YtboejpobmpfifaaGreatDoorLTys
set_option linter.constructorNameAsVariable false
set_option linter.unusedSimpArgs false
set_option linter.unusedVariables false
namespace Go.Proofs.YtboejpobmpfifaaGreatDoor.Eng
open Go Go.RowKit Go.ChangeShapes Go.WideShapes Go.ChangeAt
set_option maxRecDepth 100000
theorem c9 : Tryz.prog.cellsOf 9 = 1 := by kernel_rfl
end Go.Proofs.YtboejpobmpfifaaGreatDoor.Eng
