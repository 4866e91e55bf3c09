/-
  CheckKnown's cases, each reckoned: the third.
-/
import Derived.Test.YtgpeaibhhonikaaGreatDoorCka
set_option linter.unusedSimpArgs false
set_option linter.unusedVariables false
namespace Go.Proofs.YtgpeaibhhonikaaGreatDoor
open Go Go.Lg Go.RowKit
set_option maxRecDepth 100000
theorem ck2 : skB 2 = true := by kernel_rfl
theorem ck8 : skB 8 = true := by kernel_rfl
theorem ck14 : skB 14 = true := by kernel_rfl
theorem ck20 : skB 20 = true := by kernel_rfl
theorem ck26 : skB 26 = true := by kernel_rfl
theorem ck32 : skB 32 = true := by kernel_rfl
end Go.Proofs.YtgpeaibhhonikaaGreatDoor
