/-
  CheckKnown's row: the closed facts, one by one (the kernel's memory is given back behind each).
-/
import Derived.Test.YtgpeaibhhonikaaGreatDoorRows
import Derived.KernelRfl
import Derived.JoinedOf
set_option linter.unusedSimpArgs false
set_option linter.unusedVariables false
namespace Go.Proofs.YtgpeaibhhonikaaGreatDoor
open Go
set_option maxRecDepth 100000
theorem ckInPlace : (Rows.checkKnownRow.inPlace == Tryz.prog.inPlace 11) = true := by kernel_rfl
theorem ckUnfollowed : (Rows.checkKnownRow.unfollowed == Tryz.prog.unfollowed 11) = true := by kernel_rfl
theorem ckRecurses : (Rows.checkKnownRow.recurses == Tryz.prog.recurses 11) = true := by kernel_rfl
theorem ckNamed : (Rows.checkKnownRow.named == Tryz.prog.varsNamed 11) = true := by kernel_rfl
theorem ckEnter : Tryz.prog.mayEnter = true := by kernel_rfl
theorem ckLifted : (Rows.checkKnownRow.lifted == Tryz.prog.liftsFinal) = true := by kernel_rfl
theorem ckWf : Rows.checkKnownRow.wf (OpenSpec.ofChange Rows.checkKnownSpec) = true := by kernel_rfl
theorem ckOut : laidOutB Tryz.prog = true := by kernel_rfl
theorem ckMaps : mapsRowed Tryz.prog = true := by kernel_rfl
theorem ckKeys : (Rows.checkKnownRow.plainKeys == Tryz.prog.plainKeys) = true := by kernel_rfl
theorem checkKnown_closed : joinedFacts Tryz.prog 11 Tryz.f11 Rows.checkKnownSpec Rows.checkKnownRow = true := by
  unfold joinedFacts
  rw [ckInPlace, ckUnfollowed, ckRecurses, ckNamed, ckEnter, ckLifted, ckWf, ckOut, ckMaps, ckKeys]
  kernel_rfl
#print axioms checkKnown_closed
end Go.Proofs.YtgpeaibhhonikaaGreatDoor
