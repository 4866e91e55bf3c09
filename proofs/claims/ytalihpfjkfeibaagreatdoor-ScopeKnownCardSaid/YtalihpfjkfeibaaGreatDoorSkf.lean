/-
  ScopeKnown's row: the closed facts, one by one (the kernel's memory is given back behind each).
-/
import Derived.Test.YtalihpfjkfeibaaGreatDoorRows
import Derived.KernelRfl
import Derived.JoinedOf
set_option linter.unusedSimpArgs false
set_option linter.unusedVariables false
namespace Go.Proofs.YtalihpfjkfeibaaGreatDoor
open Go
set_option maxRecDepth 100000
theorem skInPlace : (Rows.scopeKnownRow.inPlace == Tryz.prog.inPlace 3) = true := by kernel_rfl
theorem skUnfollowed : (Rows.scopeKnownRow.unfollowed == Tryz.prog.unfollowed 3) = true := by kernel_rfl
theorem skRecurses : (Rows.scopeKnownRow.recurses == Tryz.prog.recurses 3) = true := by kernel_rfl
theorem skNamed : (Rows.scopeKnownRow.named == Tryz.prog.varsNamed 3) = true := by kernel_rfl
theorem skEnter : Tryz.prog.mayEnter = true := by kernel_rfl
theorem skLifted : (Rows.scopeKnownRow.lifted == Tryz.prog.liftsFinal) = true := by kernel_rfl
theorem skWf : Rows.scopeKnownRow.wf (OpenSpec.ofChange Rows.scopeKnownSpec) = true := by kernel_rfl
theorem skOut : laidOutB Tryz.prog = true := by kernel_rfl
theorem skMaps : mapsRowed Tryz.prog = true := by kernel_rfl
theorem skKeys : (Rows.scopeKnownRow.plainKeys == Tryz.prog.plainKeys) = true := by kernel_rfl
theorem scopeKnown_closed : joinedFacts Tryz.prog 3 Tryz.f3 Rows.scopeKnownSpec Rows.scopeKnownRow = true := by
  unfold joinedFacts
  rw [skInPlace, skUnfollowed, skRecurses, skNamed, skEnter, skLifted, skWf, skOut, skMaps, skKeys]
  kernel_rfl
#print axioms scopeKnown_closed
end Go.Proofs.YtalihpfjkfeibaaGreatDoor
