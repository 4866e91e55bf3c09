/-
  TypesOrder's row: the closed facts, one by one (the kernel's memory is given back behind each).
-/
import Derived.Test.YtgpeaibhhonikaaGreatDoorRows
import Derived.KernelRfl
import Derived.JoinedOf
set_option linter.unusedSimpArgs false
set_option linter.unusedVariables false
namespace Go.Proofs.YtgpeaibhhonikaaGreatDoor
open Go
set_option maxRecDepth 100000
theorem toInPlace : (Rows.typesOrderRow.inPlace == Tryz.prog.inPlace 8) = true := by kernel_rfl
theorem toUnfollowed : (Rows.typesOrderRow.unfollowed == Tryz.prog.unfollowed 8) = true := by kernel_rfl
theorem toRecurses : (Rows.typesOrderRow.recurses == Tryz.prog.recurses 8) = true := by kernel_rfl
theorem toNamed : (Rows.typesOrderRow.named == Tryz.prog.varsNamed 8) = true := by kernel_rfl
theorem toEnter : Tryz.prog.mayEnter = true := by kernel_rfl
theorem toLifted : (Rows.typesOrderRow.lifted == Tryz.prog.liftsFinal) = true := by kernel_rfl
theorem toWf : Rows.typesOrderRow.wf (OpenSpec.ofChange Rows.typesOrderSpec) = true := by kernel_rfl
theorem toOut : laidOutB Tryz.prog = true := by kernel_rfl
theorem toMaps : mapsRowed Tryz.prog = true := by kernel_rfl
theorem toKeys : (Rows.typesOrderRow.plainKeys == Tryz.prog.plainKeys) = true := by kernel_rfl
theorem typesOrder_closed : joinedFacts Tryz.prog 8 Tryz.f8 Rows.typesOrderSpec Rows.typesOrderRow = true := by
  unfold joinedFacts
  rw [toInPlace, toUnfollowed, toRecurses, toNamed, toEnter, toLifted, toWf, toOut, toMaps, toKeys]
  kernel_rfl
#print axioms typesOrder_closed
end Go.Proofs.YtgpeaibhhonikaaGreatDoor
