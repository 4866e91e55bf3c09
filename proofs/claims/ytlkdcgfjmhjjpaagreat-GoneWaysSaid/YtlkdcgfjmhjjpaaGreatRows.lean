/-
  NARROWER THAN 'FOR EVERY INPUT', by the rows' own cells (each row's printed sentence says how): GoneWays: loops · GoneNever: loops.
  DERIVED. THE GIVEN ROWS OF THIS SEAT. 4 by the template 'for every input the law returns true; each argument reads behind the call as it read before'; 0 by the template 'total and deterministic' (their statements: YtlkdcgfjmhjjpaaGreatTotals.lean).
  GIVEN WITH THE SEED: the statements are not yours to turn. If you find one false, say at which input.
  Laid BY PROGRAM, IN A SANDBOX (cutbox-rows.mjs): the forced cells as the released guide's own fill.sh prints them over the translation 7885c79417e2ff87… (all of the seat's roots in one cut). By AI agents, Wed Nov 11 2026. No macro, syntax, notation, axiom, sorry.
-/
import Derived.Test.YtlkdcgfjmhjjpaaGreatChecked
import GoSem.Claim
import GoSem.ClaimJoined
import GoSem.ClaimMapViews
import Derived.JoinedTies
import Derived.KernelRfl
namespace Go.Proofs.YtlkdcgfjmhjjpaaGreat
/- THE CELL 'sum', in the pinned program and in every row, IS THE sha256 OF THE DUMP (.gsa) THAT YtlkdcgfjmhjjpaaGreatProg.lean LOADS. Nothing in Lean hashes anything: it is a label: what it is worth is what the hold of that sum in a sandbox is worth. -/
noncomputable def Tryz.pinned : Pinned := { name := "ytlkdcgfjmhjjpaagreat", sum := "7885c79417e2ff87752b3735bd628cbcf314f2b3c8c99629b52f87d2a45ed616", checked := Tryz.checked }
namespace Rows
def none {H : Type} : Left H := { results := [], args := [] }

/-- 'usufructlaw20.GoneSteps': WHATEVER THE INPUT: true; the input reads as it did. -/
def goneStepsSpec : ChangeSpec := { name := "goneSteps", fn := fun _ => fun
  | [d1, d2, d3] => { results := [.lit (.bool true)], args := [d1, d2, d3] }
  | _ => none }
def goneStepsRow : OpenClaim := { program := "ytlkdcgfjmhjjpaagreat", sum := "7885c79417e2ff87752b3735bd628cbcf314f2b3c8c99629b52f87d2a45ed616", func := "usufruct/usufructlaw20.GoneSteps", spec := "goneSteps", unfollowed := true, recurses := true, apart := false }
def GoneStepsSaid : Prop := goneStepsRow.holds Tryz.pinned (OpenSpec.ofChange goneStepsSpec)

/-- ITS FALSE NEIGHBOUR: 'it returns false'. Refute it at one input. -/
def goneStepsWrong : ChangeSpec := { name := "goneSteps", fn := fun _ => fun
  | [d1, d2, d3] => { results := [.lit (.bool false)], args := [d1, d2, d3] }
  | _ => none }
def GoneStepsWrongFalsely : Prop := goneStepsRow.holds Tryz.pinned (OpenSpec.ofChange goneStepsWrong)

/-- 'usufructlaw20.GoneOrder': WHATEVER THE INPUT: true; the input reads as it did. -/
def goneOrderSpec : ChangeSpec := { name := "goneOrder", fn := fun _ => fun
  | [d1, d2] => { results := [.lit (.bool true)], args := [d1, d2] }
  | _ => none }
def goneOrderRow : OpenClaim := { program := "ytlkdcgfjmhjjpaagreat", sum := "7885c79417e2ff87752b3735bd628cbcf314f2b3c8c99629b52f87d2a45ed616", func := "usufruct/usufructlaw20.GoneOrder", spec := "goneOrder", unfollowed := true, recurses := true, apart := false }
def GoneOrderSaid : Prop := goneOrderRow.holds Tryz.pinned (OpenSpec.ofChange goneOrderSpec)

/-- ITS FALSE NEIGHBOUR: 'it returns false'. Refute it at one input. -/
def goneOrderWrong : ChangeSpec := { name := "goneOrder", fn := fun _ => fun
  | [d1, d2] => { results := [.lit (.bool false)], args := [d1, d2] }
  | _ => none }
def GoneOrderWrongFalsely : Prop := goneOrderRow.holds Tryz.pinned (OpenSpec.ofChange goneOrderWrong)

/-- 'usufructlaw20.GoneWays': WHATEVER THE INPUT: true; the input reads as it did. -/
def goneWaysSpec : ChangeSpec := { name := "goneWays", fn := fun _ => fun
  | [d1, d2] => { results := [.lit (.bool true)], args := [d1, d2] }
  | _ => none }
def goneWaysRow : OpenClaim := { program := "ytlkdcgfjmhjjpaagreat", sum := "7885c79417e2ff87752b3735bd628cbcf314f2b3c8c99629b52f87d2a45ed616", func := "usufruct/usufructlaw20.GoneWays", spec := "goneWays", unfollowed := true, recurses := true, loops := true, apart := false }
def GoneWaysSaid : Prop := goneWaysRow.holds Tryz.pinned (OpenSpec.ofChange goneWaysSpec)

/-- ITS FALSE NEIGHBOUR: 'it returns false'. Refute it at one input. -/
def goneWaysWrong : ChangeSpec := { name := "goneWays", fn := fun _ => fun
  | [d1, d2] => { results := [.lit (.bool false)], args := [d1, d2] }
  | _ => none }
def GoneWaysWrongFalsely : Prop := goneWaysRow.holds Tryz.pinned (OpenSpec.ofChange goneWaysWrong)

/-- 'usufructlaw20.GoneNever': WHATEVER THE INPUT: true; the input reads as it did. -/
def goneNeverSpec : ChangeSpec := { name := "goneNever", fn := fun _ => fun
  | [d] => { results := [.lit (.bool true)], args := [d] }
  | _ => none }
def goneNeverRow : OpenClaim := { program := "ytlkdcgfjmhjjpaagreat", sum := "7885c79417e2ff87752b3735bd628cbcf314f2b3c8c99629b52f87d2a45ed616", func := "usufruct/usufructlaw20.GoneNever", spec := "goneNever", unfollowed := true, recurses := true, loops := true, apart := false }
def GoneNeverSaid : Prop := goneNeverRow.holds Tryz.pinned (OpenSpec.ofChange goneNeverSpec)

/-- ITS FALSE NEIGHBOUR: 'it returns false'. Refute it at one input. -/
def goneNeverWrong : ChangeSpec := { name := "goneNever", fn := fun _ => fun
  | [d] => { results := [.lit (.bool false)], args := [d] }
  | _ => none }
def GoneNeverWrongFalsely : Prop := goneNeverRow.holds Tryz.pinned (OpenSpec.ofChange goneNeverWrong)

/- THE SECOND FORM. 'bulk': how many values and letters a reading holds, each counted each time it is reached (what is shared counts as often as it is met; a slice's spare places count too). A statement '..UptoSaid' is the law's where the arguments, and the package variables that the reading takes, are together of bulk at most 1048576: NARROWER than '..Said'. Prove '..Said' where nothing that the law and all that it calls make is longer than what came in: it says more and counts as full. Else prove '..UptoSaid'. A law counts once. -/
mutual
def uptoBulk {H : Type} : DataW H → Nat
  | .lit (.string bytes) => bytes.length + 1
  | .lit _ => 1
  | .nil => 1
  | .ptr d => uptoBulk d + 1
  | .slice elems spare => uptoBulkAll elems + uptoBulkAll spare + 1
  | .agg parts => uptoBulkAll parts + 1
  | .iface _ d => uptoBulk d + 1
  | .map entries => uptoBulkEntries entries + 1
  | .held _ => 1
def uptoBulkAll {H : Type} : List (DataW H) → Nat
  | [] => 0
  | d :: r => uptoBulk d + uptoBulkAll r
def uptoBulkEntries {H : Type} : List (Lit × DataW H) → Nat
  | [] => 0
  | x :: r => uptoBulkEntry x + uptoBulkEntries r
def uptoBulkEntry {H : Type} : Lit × DataW H → Nat
  | (.string bytes, d) => bytes.length + uptoBulk d + 1
  | (_, d) => uptoBulk d + 1
 end
def uptoSmall : (H : Type) → List (DataW H) → Bool := fun _ ds => decide (uptoBulkAll ds ≤ 1048576)
def OpenSpec.upto (s : _root_.Go.ChangeSpec) : _root_.Go.OpenSpec := { _root_.Go.OpenSpec.ofChange s with cond := some uptoSmall }

/-- 'usufructlaw20.GoneSteps', WHERE WHAT IT READS IS OF BULK AT MOST 1048576: true; the input reads as it did. -/
def goneStepsUptoRow : OpenClaim := { program := "ytlkdcgfjmhjjpaagreat", sum := "7885c79417e2ff87752b3735bd628cbcf314f2b3c8c99629b52f87d2a45ed616", func := "usufruct/usufructlaw20.GoneSteps", spec := "goneSteps", unfollowed := true, recurses := true, apart := false, narrowed := true }
def GoneStepsUptoSaid : Prop := goneStepsUptoRow.holds Tryz.pinned (OpenSpec.upto goneStepsSpec)

/-- 'usufructlaw20.GoneOrder', WHERE WHAT IT READS IS OF BULK AT MOST 1048576: true; the input reads as it did. -/
def goneOrderUptoRow : OpenClaim := { program := "ytlkdcgfjmhjjpaagreat", sum := "7885c79417e2ff87752b3735bd628cbcf314f2b3c8c99629b52f87d2a45ed616", func := "usufruct/usufructlaw20.GoneOrder", spec := "goneOrder", unfollowed := true, recurses := true, apart := false, narrowed := true }
def GoneOrderUptoSaid : Prop := goneOrderUptoRow.holds Tryz.pinned (OpenSpec.upto goneOrderSpec)

/-- 'usufructlaw20.GoneWays', WHERE WHAT IT READS IS OF BULK AT MOST 1048576: true; the input reads as it did. -/
def goneWaysUptoRow : OpenClaim := { program := "ytlkdcgfjmhjjpaagreat", sum := "7885c79417e2ff87752b3735bd628cbcf314f2b3c8c99629b52f87d2a45ed616", func := "usufruct/usufructlaw20.GoneWays", spec := "goneWays", unfollowed := true, recurses := true, loops := true, apart := false, narrowed := true }
def GoneWaysUptoSaid : Prop := goneWaysUptoRow.holds Tryz.pinned (OpenSpec.upto goneWaysSpec)

/-- 'usufructlaw20.GoneNever', WHERE WHAT IT READS IS OF BULK AT MOST 1048576: true; the input reads as it did. -/
def goneNeverUptoRow : OpenClaim := { program := "ytlkdcgfjmhjjpaagreat", sum := "7885c79417e2ff87752b3735bd628cbcf314f2b3c8c99629b52f87d2a45ed616", func := "usufruct/usufructlaw20.GoneNever", spec := "goneNever", unfollowed := true, recurses := true, loops := true, apart := false, narrowed := true }
def GoneNeverUptoSaid : Prop := goneNeverUptoRow.holds Tryz.pinned (OpenSpec.upto goneNeverSpec)

end Rows
end Go.Proofs.YtlkdcgfjmhjjpaaGreat
