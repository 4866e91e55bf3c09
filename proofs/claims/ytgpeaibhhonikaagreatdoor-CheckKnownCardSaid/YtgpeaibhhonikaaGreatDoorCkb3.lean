/-
  CheckKnown's cases, each reckoned: the fourth.
-/
import Derived.Test.YtgpeaibhhonikaaGreatDoorCka
set_option linter.unusedSimpArgs false
set_option linter.unusedVariables false
namespace Go.Proofs.YtgpeaibhhonikaaGreatDoor
open Go Go.Lg Go.RowKit
set_option maxRecDepth 100000
theorem ck3 : skB 3 = true := by kernel_rfl
theorem ck9 : skB 9 = true := by kernel_rfl
theorem ck15 : skB 15 = true := by kernel_rfl
theorem ck21 : skB 21 = true := by kernel_rfl
theorem ck27 : skB 27 = true := by kernel_rfl
end Go.Proofs.YtgpeaibhhonikaaGreatDoor
