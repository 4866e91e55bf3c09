/-
  Texts Fe of this claim, put together.
-/
import Derived.Test.YtobhpkagbmadlaaGC
import Derived.Test.YtobhpkagbmadlaaProg
/-
  The bodies of the functions, as the plain logic reads them; each is the loaded program's own (by the kernel's reckoning).
-/
namespace Go.Proofs.Ytobhpkagbmadlaa
open Go Go.Lg
set_option maxRecDepth 100000

end Go.Proofs.Ytobhpkagbmadlaa
