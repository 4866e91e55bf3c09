/-
  TypesNumbers's row: the closed facts, one by one (the kernel's memory is given back behind each).
-/
import Derived.Test.YtgpeaibhhonikaaGreatDoorRows
import Derived.KernelRfl
import Derived.JoinedOf
set_option linter.unusedSimpArgs false
set_option linter.unusedVariables false
namespace Go.Proofs.YtgpeaibhhonikaaGreatDoor
open Go
set_option maxRecDepth 100000
theorem tnInPlace : (Rows.typesNumbersRow.inPlace == Tryz.prog.inPlace 10) = true := by kernel_rfl
theorem tnUnfollowed : (Rows.typesNumbersRow.unfollowed == Tryz.prog.unfollowed 10) = true := by kernel_rfl
theorem tnRecurses : (Rows.typesNumbersRow.recurses == Tryz.prog.recurses 10) = true := by kernel_rfl
theorem tnNamed : (Rows.typesNumbersRow.named == Tryz.prog.varsNamed 10) = true := by kernel_rfl
theorem tnEnter : Tryz.prog.mayEnter = true := by kernel_rfl
theorem tnLifted : (Rows.typesNumbersRow.lifted == Tryz.prog.liftsFinal) = true := by kernel_rfl
theorem tnWf : Rows.typesNumbersRow.wf (OpenSpec.ofChange Rows.typesNumbersSpec) = true := by kernel_rfl
theorem tnOut : laidOutB Tryz.prog = true := by kernel_rfl
theorem tnMaps : mapsRowed Tryz.prog = true := by kernel_rfl
theorem tnKeys : (Rows.typesNumbersRow.plainKeys == Tryz.prog.plainKeys) = true := by kernel_rfl
theorem typesNumbers_closed : joinedFacts Tryz.prog 10 Tryz.f10 Rows.typesNumbersSpec Rows.typesNumbersRow = true := by
  unfold joinedFacts
  rw [tnInPlace, tnUnfollowed, tnRecurses, tnNamed, tnEnter, tnLifted, tnWf, tnOut, tnMaps, tnKeys]
  kernel_rfl
#print axioms typesNumbers_closed
end Go.Proofs.YtgpeaibhhonikaaGreatDoor
