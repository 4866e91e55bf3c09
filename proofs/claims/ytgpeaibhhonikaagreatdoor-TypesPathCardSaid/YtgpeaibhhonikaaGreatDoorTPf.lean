/-
  TypesPath's row: the closed facts, one by one (the kernel's memory is given back behind each).
-/
import Derived.Test.YtgpeaibhhonikaaGreatDoorRows
import Derived.KernelRfl
import Derived.JoinedOf
set_option linter.unusedSimpArgs false
set_option linter.unusedVariables false
namespace Go.Proofs.YtgpeaibhhonikaaGreatDoor
open Go
set_option maxRecDepth 100000
theorem tpInPlace : (Rows.typesPathRow.inPlace == Tryz.prog.inPlace 9) = true := by kernel_rfl
theorem tpUnfollowed : (Rows.typesPathRow.unfollowed == Tryz.prog.unfollowed 9) = true := by kernel_rfl
theorem tpRecurses : (Rows.typesPathRow.recurses == Tryz.prog.recurses 9) = true := by kernel_rfl
theorem tpNamed : (Rows.typesPathRow.named == Tryz.prog.varsNamed 9) = true := by kernel_rfl
theorem tpEnter : Tryz.prog.mayEnter = true := by kernel_rfl
theorem tpLifted : (Rows.typesPathRow.lifted == Tryz.prog.liftsFinal) = true := by kernel_rfl
theorem tpWf : Rows.typesPathRow.wf (OpenSpec.ofChange Rows.typesPathSpec) = true := by kernel_rfl
theorem tpOut : laidOutB Tryz.prog = true := by kernel_rfl
theorem tpMaps : mapsRowed Tryz.prog = true := by kernel_rfl
theorem tpKeys : (Rows.typesPathRow.plainKeys == Tryz.prog.plainKeys) = true := by kernel_rfl
theorem typesPath_closed : joinedFacts Tryz.prog 9 Tryz.f9 Rows.typesPathSpec Rows.typesPathRow = true := by
  unfold joinedFacts
  rw [tpInPlace, tpUnfollowed, tpRecurses, tpNamed, tpEnter, tpLifted, tpWf, tpOut, tpMaps, tpKeys]
  kernel_rfl
#print axioms typesPath_closed
end Go.Proofs.YtgpeaibhhonikaaGreatDoor
