/-
  TypesAsk's row: the closed facts, one by one (the kernel's memory is given back behind each).
-/
import Derived.Test.YtgpeaibhhonikaaGreatDoorRows
import Derived.KernelRfl
import Derived.JoinedOf
set_option linter.unusedSimpArgs false
set_option linter.unusedVariables false
namespace Go.Proofs.YtgpeaibhhonikaaGreatDoor
open Go
set_option maxRecDepth 100000
theorem taInPlace : (Rows.typesAskRow.inPlace == Tryz.prog.inPlace 6) = true := by kernel_rfl
theorem taUnfollowed : (Rows.typesAskRow.unfollowed == Tryz.prog.unfollowed 6) = true := by kernel_rfl
theorem taRecurses : (Rows.typesAskRow.recurses == Tryz.prog.recurses 6) = true := by kernel_rfl
theorem taNamed : (Rows.typesAskRow.named == Tryz.prog.varsNamed 6) = true := by kernel_rfl
theorem taEnter : Tryz.prog.mayEnter = true := by kernel_rfl
theorem taLifted : (Rows.typesAskRow.lifted == Tryz.prog.liftsFinal) = true := by kernel_rfl
theorem taWf : Rows.typesAskRow.wf (OpenSpec.ofChange Rows.typesAskSpec) = true := by kernel_rfl
theorem taOut : laidOutB Tryz.prog = true := by kernel_rfl
theorem taMaps : mapsRowed Tryz.prog = true := by kernel_rfl
theorem taKeys : (Rows.typesAskRow.plainKeys == Tryz.prog.plainKeys) = true := by kernel_rfl
theorem typesAsk_closed : joinedFacts Tryz.prog 6 Tryz.f6 Rows.typesAskSpec Rows.typesAskRow = true := by
  unfold joinedFacts
  rw [taInPlace, taUnfollowed, taRecurses, taNamed, taEnter, taLifted, taWf, taOut, taMaps, taKeys]
  kernel_rfl
#print axioms typesAsk_closed
end Go.Proofs.YtgpeaibhhonikaaGreatDoor
