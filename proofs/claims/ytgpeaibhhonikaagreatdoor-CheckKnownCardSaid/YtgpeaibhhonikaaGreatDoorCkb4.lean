/-
  CheckKnown's cases, each reckoned: the fifth.
-/
import Derived.Test.YtgpeaibhhonikaaGreatDoorCka
set_option linter.unusedSimpArgs false
set_option linter.unusedVariables false
namespace Go.Proofs.YtgpeaibhhonikaaGreatDoor
open Go Go.Lg Go.RowKit
set_option maxRecDepth 100000
theorem ck4 : skB 4 = true := by kernel_rfl
theorem ck10 : skB 10 = true := by kernel_rfl
theorem ck16 : skB 16 = true := by kernel_rfl
theorem ck22 : skB 22 = true := by kernel_rfl
theorem ck28 : skB 28 = true := by kernel_rfl
end Go.Proofs.YtgpeaibhhonikaaGreatDoor
