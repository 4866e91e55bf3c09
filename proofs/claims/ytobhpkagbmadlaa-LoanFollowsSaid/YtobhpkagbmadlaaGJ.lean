/-
  Texts Ctb of this claim, put together.
-/
import Derived.Test.YtobhpkagbmadlaaGI
import Derived.Test.YtobhpkagbmadlaaGG
set_option linter.unusedSimpArgs false
set_option linter.unusedVariables false
namespace Go.Proofs.Ytobhpkagbmadlaa
open Go Go.Lg Go.RowKit
set_option maxRecDepth 20000

end Go.Proofs.Ytobhpkagbmadlaa
