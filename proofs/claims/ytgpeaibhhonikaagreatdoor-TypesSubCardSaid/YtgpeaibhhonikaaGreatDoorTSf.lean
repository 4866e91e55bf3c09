/-
  TypesSub's row: the closed facts, one by one (the kernel's memory is given back behind each).
-/
import Derived.Test.YtgpeaibhhonikaaGreatDoorRows
import Derived.KernelRfl
import Derived.JoinedOf
set_option linter.unusedSimpArgs false
set_option linter.unusedVariables false
namespace Go.Proofs.YtgpeaibhhonikaaGreatDoor
open Go
set_option maxRecDepth 100000
theorem tsInPlace : (Rows.typesSubRow.inPlace == Tryz.prog.inPlace 7) = true := by kernel_rfl
theorem tsUnfollowed : (Rows.typesSubRow.unfollowed == Tryz.prog.unfollowed 7) = true := by kernel_rfl
theorem tsRecurses : (Rows.typesSubRow.recurses == Tryz.prog.recurses 7) = true := by kernel_rfl
theorem tsNamed : (Rows.typesSubRow.named == Tryz.prog.varsNamed 7) = true := by kernel_rfl
theorem tsEnter : Tryz.prog.mayEnter = true := by kernel_rfl
theorem tsLifted : (Rows.typesSubRow.lifted == Tryz.prog.liftsFinal) = true := by kernel_rfl
theorem tsWf : Rows.typesSubRow.wf (OpenSpec.ofChange Rows.typesSubSpec) = true := by kernel_rfl
theorem tsOut : laidOutB Tryz.prog = true := by kernel_rfl
theorem tsMaps : mapsRowed Tryz.prog = true := by kernel_rfl
theorem tsKeys : (Rows.typesSubRow.plainKeys == Tryz.prog.plainKeys) = true := by kernel_rfl
theorem typesSub_closed : joinedFacts Tryz.prog 7 Tryz.f7 Rows.typesSubSpec Rows.typesSubRow = true := by
  unfold joinedFacts
  rw [tsInPlace, tsUnfollowed, tsRecurses, tsNamed, tsEnter, tsLifted, tsWf, tsOut, tsMaps, tsKeys]
  kernel_rfl
#print axioms typesSub_closed
end Go.Proofs.YtgpeaibhhonikaaGreatDoor
