/-
  The reckoning in parts: a body's first part walked by hand, the rest reckoned; a function that is known to hand back a plain value.
-/
import Derived.Test.YtgpeaibhhonikaaGreatDoorEj
set_option linter.unusedSimpArgs false
set_option linter.unusedVariables false
namespace Go.Lg
open Go Go.RowKit

def LC.l : LC → LC
  | .seq x _ => x
  | .join x _ => x
  | c => c
def LC.r : LC → LC
  | .seq _ y => y
  | .join _ y => y
  | c => c
noncomputable def nmT (r : Rs) : Tq V := Rs.rec (motive := fun _ => Tq V) (fun _ => .nil) (fun t _ => t) (fun _ _ _ => .nil) (fun _ _ => .nil) r
end Go.Lg
