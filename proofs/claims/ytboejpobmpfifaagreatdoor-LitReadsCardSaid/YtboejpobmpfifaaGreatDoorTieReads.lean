/-
 What the row of LitReads says of the program as a whole: closed facts. No condition.
-/
import Derived.Test.YtboejpobmpfifaaGreatDoorCards
import Derived.Test.YtboejpobmpfifaaGreatDoorTie
import Derived.KernelRfl
namespace Go.Proofs.YtboejpobmpfifaaGreatDoor.litReads
open Go
set_option maxRecDepth 100000
set_option maxHeartbeats 4000000 in
theorem joined : joinedFacts Tryz.prog 12 Tryz.f12 (OpenSpec.ofChange Rows.litReadsSpec).bare Rows.litReadsRow = true := by
 simp only [joinedFacts, Bool.and_eq_true]
 repeat' apply And.intro
 all_goals as_aux_lemma => kernel_rfl
theorem wfText : OpenClaim.wfByText (OpenSpec.ofChange Rows.litReadsSpec) Rows.litReadsRow = true := by kernel_rfl
theorem goes : false = Rows.litReadsRow.goesBy Tryz.prog := by kernel_rfl
