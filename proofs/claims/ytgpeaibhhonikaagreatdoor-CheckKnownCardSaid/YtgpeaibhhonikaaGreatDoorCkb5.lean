/-
  CheckKnown's cases, each reckoned: the sixth.
-/
import Derived.Test.YtgpeaibhhonikaaGreatDoorCka
set_option linter.unusedSimpArgs false
set_option linter.unusedVariables false
namespace Go.Proofs.YtgpeaibhhonikaaGreatDoor
open Go Go.Lg Go.RowKit
set_option maxRecDepth 100000
theorem ck5 : skB 5 = true := by kernel_rfl
theorem ck11 : skB 11 = true := by kernel_rfl
theorem ck17 : skB 17 = true := by kernel_rfl
theorem ck23 : skB 23 = true := by kernel_rfl
theorem ck29 : skB 29 = true := by kernel_rfl
end Go.Proofs.YtgpeaibhhonikaaGreatDoor
