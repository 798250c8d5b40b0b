/-
  What the row of ChunkOf says of the program as a whole: closed facts. No condition.
-/
import Derived.Test.YtboejpobmpfifaaGreatDoorCards
import Derived.Test.YtboejpobmpfifaaGreatDoorTie
import Derived.KernelRfl
namespace Go.Proofs.YtboejpobmpfifaaGreatDoor.chunkOf
open Go
set_option maxRecDepth 100000
set_option maxHeartbeats 4000000 in
theorem joined : joinedFacts Tryz.prog 5 Tryz.f5 (OpenSpec.ofChange Rows.chunkOfSpec).bare Rows.chunkOfRow = true := by
  simp only [joinedFacts, Bool.and_eq_true]
  repeat' apply And.intro
  all_goals as_aux_lemma => kernel_rfl
theorem wfText : OpenClaim.wfByText (OpenSpec.ofChange Rows.chunkOfSpec) Rows.chunkOfRow = true := by kernel_rfl
theorem goes : false = Rows.chunkOfRow.goesBy Tryz.prog := by kernel_rfl

end Go.Proofs.YtboejpobmpfifaaGreatDoor.chunkOf
