/-
  TypesLift's row: the closed facts, one by one (the kernel's memory is given back behind each).
-/
import Derived.Test.YtgpeaibhhonikaaGreatDoorRows
import Derived.KernelRfl
import Derived.JoinedOf
set_option linter.unusedSimpArgs false
set_option linter.unusedVariables false
namespace Go.Proofs.YtgpeaibhhonikaaGreatDoor
open Go
set_option maxRecDepth 100000
theorem tlInPlace : (Rows.typesLiftRow.inPlace == Tryz.prog.inPlace 5) = true := by kernel_rfl
theorem tlUnfollowed : (Rows.typesLiftRow.unfollowed == Tryz.prog.unfollowed 5) = true := by kernel_rfl
theorem tlRecurses : (Rows.typesLiftRow.recurses == Tryz.prog.recurses 5) = true := by kernel_rfl
theorem tlNamed : (Rows.typesLiftRow.named == Tryz.prog.varsNamed 5) = true := by kernel_rfl
theorem tlEnter : Tryz.prog.mayEnter = true := by kernel_rfl
theorem tlLifted : (Rows.typesLiftRow.lifted == Tryz.prog.liftsFinal) = true := by kernel_rfl
theorem tlWf : Rows.typesLiftRow.wf (OpenSpec.ofChange Rows.typesLiftSpec) = true := by kernel_rfl
theorem tlOut : laidOutB Tryz.prog = true := by kernel_rfl
theorem tlMaps : mapsRowed Tryz.prog = true := by kernel_rfl
theorem tlKeys : (Rows.typesLiftRow.plainKeys == Tryz.prog.plainKeys) = true := by kernel_rfl
theorem typesLift_closed : joinedFacts Tryz.prog 5 Tryz.f5 Rows.typesLiftSpec Rows.typesLiftRow = true := by
  unfold joinedFacts
  rw [tlInPlace, tlUnfollowed, tlRecurses, tlNamed, tlEnter, tlLifted, tlWf, tlOut, tlMaps, tlKeys]
  kernel_rfl
#print axioms typesLift_closed
end Go.Proofs.YtgpeaibhhonikaaGreatDoor
