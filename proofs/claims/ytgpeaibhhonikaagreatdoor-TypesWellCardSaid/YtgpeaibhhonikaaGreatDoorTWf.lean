/-
  TypesWell's row: the closed facts, one by one (the kernel's memory is given back behind each).
-/
import Derived.Test.YtgpeaibhhonikaaGreatDoorRows
import Derived.KernelRfl
import Derived.JoinedOf
set_option linter.unusedSimpArgs false
set_option linter.unusedVariables false
namespace Go.Proofs.YtgpeaibhhonikaaGreatDoor
open Go
set_option maxRecDepth 100000
theorem twInPlace : (Rows.typesWellRow.inPlace == Tryz.prog.inPlace 4) = true := by kernel_rfl
theorem twUnfollowed : (Rows.typesWellRow.unfollowed == Tryz.prog.unfollowed 4) = true := by kernel_rfl
theorem twRecurses : (Rows.typesWellRow.recurses == Tryz.prog.recurses 4) = true := by kernel_rfl
theorem twNamed : (Rows.typesWellRow.named == Tryz.prog.varsNamed 4) = true := by kernel_rfl
theorem twEnter : Tryz.prog.mayEnter = true := by kernel_rfl
theorem twLifted : (Rows.typesWellRow.lifted == Tryz.prog.liftsFinal) = true := by kernel_rfl
theorem twWf : Rows.typesWellRow.wf (OpenSpec.ofChange Rows.typesWellSpec) = true := by kernel_rfl
theorem twOut : laidOutB Tryz.prog = true := by kernel_rfl
theorem twMaps : mapsRowed Tryz.prog = true := by kernel_rfl
theorem twKeys : (Rows.typesWellRow.plainKeys == Tryz.prog.plainKeys) = true := by kernel_rfl
theorem typesWell_closed : joinedFacts Tryz.prog 4 Tryz.f4 Rows.typesWellSpec Rows.typesWellRow = true := by
  unfold joinedFacts
  rw [twInPlace, twUnfollowed, twRecurses, twNamed, twEnter, twLifted, twWf, twOut, twMaps, twKeys]
  kernel_rfl
#print axioms typesWell_closed
end Go.Proofs.YtgpeaibhhonikaaGreatDoor
