/-
  told() of layer 14 hands back true.
-/
import Derived.Test.YtgpeaibhhonikaaGreatDoorFsw
set_option linter.unusedSimpArgs false
set_option linter.unusedVariables false
namespace Go.Proofs.YtgpeaibhhonikaaGreatDoor
open Go Go.Lg Go.RowKit
set_option maxRecDepth 100000
theorem told14_ret : PRet Tryz.prog 17 [] (.bool true) := true_of_cl tbX_ok 60 (by kernel_rfl)
end Go.Proofs.YtgpeaibhhonikaaGreatDoor
