/-
  What the row of ChunkBent says of the program as a whole: closed facts. No condition.
-/
import Derived.Test.YtboejpobmpfifaaGreatDoorCards
import Derived.Test.YtboejpobmpfifaaGreatDoorTie
import Derived.KernelRfl
namespace Go.Proofs.YtboejpobmpfifaaGreatDoor.chunkBent
open Go
set_option maxRecDepth 100000
set_option maxHeartbeats 4000000 in
theorem joined : joinedFacts Tryz.prog 6 Tryz.f6 (OpenSpec.ofChange Rows.chunkBentSpec).bare Rows.chunkBentRow = true := by
  simp only [joinedFacts, Bool.and_eq_true]
  repeat' apply And.intro
  all_goals as_aux_lemma => kernel_rfl
theorem wfText : OpenClaim.wfByText (OpenSpec.ofChange Rows.chunkBentSpec) Rows.chunkBentRow = true := by kernel_rfl
theorem goes : false = Rows.chunkBentRow.goesBy Tryz.prog := by kernel_rfl

end Go.Proofs.YtboejpobmpfifaaGreatDoor.chunkBent
