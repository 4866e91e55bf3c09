/-
  CheckKnown's cases, each reckoned: the first.
-/
import Derived.Test.YtgpeaibhhonikaaGreatDoorCka
set_option linter.unusedSimpArgs false
set_option linter.unusedVariables false
namespace Go.Proofs.YtgpeaibhhonikaaGreatDoor
open Go Go.Lg Go.RowKit
set_option maxRecDepth 100000
theorem ck0 : skB 0 = true := by kernel_rfl
theorem ck6 : skB 6 = true := by kernel_rfl
theorem ck12 : skB 12 = true := by kernel_rfl
theorem ck18 : skB 18 = true := by kernel_rfl
theorem ck24 : skB 24 = true := by kernel_rfl
theorem ck30 : skB 30 = true := by kernel_rfl
end Go.Proofs.YtgpeaibhhonikaaGreatDoor
