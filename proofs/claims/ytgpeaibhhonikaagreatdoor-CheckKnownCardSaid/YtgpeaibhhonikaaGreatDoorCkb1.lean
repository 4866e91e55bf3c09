/-
  CheckKnown's cases, each reckoned: the second.
-/
import Derived.Test.YtgpeaibhhonikaaGreatDoorCka
set_option linter.unusedSimpArgs false
set_option linter.unusedVariables false
namespace Go.Proofs.YtgpeaibhhonikaaGreatDoor
open Go Go.Lg Go.RowKit
set_option maxRecDepth 100000
theorem ck1 : skB 1 = true := by kernel_rfl
theorem ck7 : skB 7 = true := by kernel_rfl
theorem ck13 : skB 13 = true := by kernel_rfl
theorem ck19 : skB 19 = true := by kernel_rfl
theorem ck25 : skB 25 = true := by kernel_rfl
theorem ck31 : skB 31 = true := by kernel_rfl
end Go.Proofs.YtgpeaibhhonikaaGreatDoor
