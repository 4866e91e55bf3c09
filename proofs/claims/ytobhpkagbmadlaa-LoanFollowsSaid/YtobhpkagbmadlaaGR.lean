/-
  Texts RowA of this claim, put together.
-/
import Derived.Test.YtobhpkagbmadlaaGF
import Derived.Test.YtobhpkagbmadlaaGE
import Derived.Test.YtobhpkagbmadlaaRows
import Derived.WalkKit
import Derived.ProofKit
import Derived.OpenShut
import Derived.ShutString
import Derived.ChangeOld
import Derived.Below
/-
  From what a law's function hands back to its given statement: the arguments as plain values; the frame of a row with one argument.
-/
set_option linter.unusedSimpArgs false
set_option linter.unusedVariables false
namespace Go.Proofs.Ytobhpkagbmadlaa
open Go Go.Lg Go.RowKit Go.ChangeShapes Go.WideShapes Go.ChangeAt
set_option linter.unusedVariables false

theorem own : ownKnob Try.prog.godebug = none := by kernel_rfl
theorem laidOut : laidOutB Try.prog = true := by kernel_rfl
theorem tiles : tilesOk Try.prog = true := by kernel_rfl

theorem arg_agg {P : Program} (htile : tilesOk P = true) {H : Type} {enc : TypeId × Value → H} {w : World} {t : TypeId} {fs : Array Field} {α : Type} {f : α → List V} {ok : α → Prop} {r : Reach} {b0 : Nat} {v : Value} {d : DataW H} {p : List MemPlace}
    (ht : P.underlying t = some (.struct fs)) (hin : t < P.types.size) (hT : IsT P t f ok) (hv : Value.okWide P w r b0 t v) (h : DataW.Trod enc P w 0 (fun _ => true) true t v d p) :
    ∃ x : α, ok x ∧ RepI (· < w.heap.size) w v (.agg (f x)) := by
  obtain ⟨cs, rfl, hsz⟩ := okWide_struct ht hv
  obtain ⟨fuel, hf⟩ := h
  obtain ⟨xs, hty, hl, hr⟩ := trod_rep htile fuel t _ d p hin hf
  obtain ⟨x, rfl, hok⟩ := hT xs hty
  simp only [Value.cells] at hl hr
  exact ⟨x, hok, .agg cs _ (by simpa using hl.symm) fun j v c hv hc => hr j v c (by simpa using hv) hc⟩

end Go.Proofs.Ytobhpkagbmadlaa
