/-
  NARROWER THAN 'FOR EVERY INPUT', by the rows' own cells (each row's printed sentence says how): FlowAsks: loops · FlowFollows: loops · FlowTurns: loops · LoanFollows: loops · LoanEnds: loops · LiveSets: loops · LiveAsks: loops · LiveWays: loops · LiveNever: loops.
  DERIVED. THE GIVEN ROWS OF THIS SEAT. 9 by the template 'for every input the law returns true; each argument reads behind the call as it read before'; 0 by the template 'total and deterministic' (their statements: YtobhpkagbmadlaaTotals.lean).
  GIVEN WITH THE SEED: the statements are not yours to turn. If you find one false, say at which input.
  Laid BY PROGRAM, IN A SANDBOX (cutbox-rows.mjs): the forced cells as the released guide's own fill.sh prints them over the translation 2eed1b72d4a958e0… (all of the seat's roots in one cut). By AI agents, Wed Nov 11 2026. No macro, syntax, notation, axiom, sorry.
-/
import Derived.Test.YtobhpkagbmadlaaChecked
import GoSem.Claim
import GoSem.ClaimJoined
import GoSem.ClaimMapViews
import Derived.JoinedTies
import Derived.KernelRfl
namespace Go.Proofs.Ytobhpkagbmadlaa
/- THE CELL 'sum', in the pinned program and in every row, IS THE sha256 OF THE DUMP (.gsa) THAT YtobhpkagbmadlaaProg.lean LOADS. Nothing in Lean hashes anything: it is a label: what it is worth is what the hold of that sum in a sandbox is worth. -/
noncomputable def Try.pinned : Pinned := { name := "ytobhpkagbmadlaa", sum := "2eed1b72d4a958e078c3b55f7131fdc978a275a5f8ec3b5379a4c1b6d964eaf9", checked := Try.checked }
namespace Rows
def none {H : Type} : Left H := { results := [], args := [] }

/-- 'usufructlaw18.FlowAsks': WHATEVER THE INPUT: true; the input reads as it did. -/
def flowAsksSpec : ChangeSpec := { name := "flowAsks", fn := fun _ => fun
  | [d] => { results := [.lit (.bool true)], args := [d] }
  | _ => none }
def flowAsksRow : OpenClaim := { program := "ytobhpkagbmadlaa", sum := "2eed1b72d4a958e078c3b55f7131fdc978a275a5f8ec3b5379a4c1b6d964eaf9", func := "usufruct/usufructlaw18.FlowAsks", spec := "flowAsks", unfollowed := true, recurses := true, loops := true, plainKeys := false, apart := false }
def FlowAsksSaid : Prop := flowAsksRow.holds Try.pinned (OpenSpec.ofChange flowAsksSpec)

/-- ITS FALSE NEIGHBOUR: 'it returns false'. Refute it at one input. -/
def flowAsksWrong : ChangeSpec := { name := "flowAsks", fn := fun _ => fun
  | [d] => { results := [.lit (.bool false)], args := [d] }
  | _ => none }
def FlowAsksWrongFalsely : Prop := flowAsksRow.holds Try.pinned (OpenSpec.ofChange flowAsksWrong)

/-- 'usufructlaw18.FlowFollows': WHATEVER THE INPUT: true; the input reads as it did. -/
def flowFollowsSpec : ChangeSpec := { name := "flowFollows", fn := fun _ => fun
  | [d] => { results := [.lit (.bool true)], args := [d] }
  | _ => none }
def flowFollowsRow : OpenClaim := { program := "ytobhpkagbmadlaa", sum := "2eed1b72d4a958e078c3b55f7131fdc978a275a5f8ec3b5379a4c1b6d964eaf9", func := "usufruct/usufructlaw18.FlowFollows", spec := "flowFollows", unfollowed := true, recurses := true, loops := true, plainKeys := false, apart := false }
def FlowFollowsSaid : Prop := flowFollowsRow.holds Try.pinned (OpenSpec.ofChange flowFollowsSpec)

/-- ITS FALSE NEIGHBOUR: 'it returns false'. Refute it at one input. -/
def flowFollowsWrong : ChangeSpec := { name := "flowFollows", fn := fun _ => fun
  | [d] => { results := [.lit (.bool false)], args := [d] }
  | _ => none }
def FlowFollowsWrongFalsely : Prop := flowFollowsRow.holds Try.pinned (OpenSpec.ofChange flowFollowsWrong)

/-- 'usufructlaw18.FlowTurns': WHATEVER THE INPUT: true; the input reads as it did. -/
def flowTurnsSpec : ChangeSpec := { name := "flowTurns", fn := fun _ => fun
  | [d] => { results := [.lit (.bool true)], args := [d] }
  | _ => none }
def flowTurnsRow : OpenClaim := { program := "ytobhpkagbmadlaa", sum := "2eed1b72d4a958e078c3b55f7131fdc978a275a5f8ec3b5379a4c1b6d964eaf9", func := "usufruct/usufructlaw18.FlowTurns", spec := "flowTurns", unfollowed := true, recurses := true, loops := true, plainKeys := false, apart := false }
def FlowTurnsSaid : Prop := flowTurnsRow.holds Try.pinned (OpenSpec.ofChange flowTurnsSpec)

/-- ITS FALSE NEIGHBOUR: 'it returns false'. Refute it at one input. -/
def flowTurnsWrong : ChangeSpec := { name := "flowTurns", fn := fun _ => fun
  | [d] => { results := [.lit (.bool false)], args := [d] }
  | _ => none }
def FlowTurnsWrongFalsely : Prop := flowTurnsRow.holds Try.pinned (OpenSpec.ofChange flowTurnsWrong)

/-- 'usufructlaw22.LoanFollows': WHATEVER THE INPUT: true; the input reads as it did. -/
def loanFollowsSpec : ChangeSpec := { name := "loanFollows", fn := fun _ => fun
  | [d1, d2, d3] => { results := [.lit (.bool true)], args := [d1, d2, d3] }
  | _ => none }
def loanFollowsRow : OpenClaim := { program := "ytobhpkagbmadlaa", sum := "2eed1b72d4a958e078c3b55f7131fdc978a275a5f8ec3b5379a4c1b6d964eaf9", func := "usufruct/usufructlaw22.LoanFollows", spec := "loanFollows", unfollowed := true, recurses := true, loops := true, plainKeys := false, apart := false }
def LoanFollowsSaid : Prop := loanFollowsRow.holds Try.pinned (OpenSpec.ofChange loanFollowsSpec)

/-- ITS FALSE NEIGHBOUR: 'it returns false'. Refute it at one input. -/
def loanFollowsWrong : ChangeSpec := { name := "loanFollows", fn := fun _ => fun
  | [d1, d2, d3] => { results := [.lit (.bool false)], args := [d1, d2, d3] }
  | _ => none }
def LoanFollowsWrongFalsely : Prop := loanFollowsRow.holds Try.pinned (OpenSpec.ofChange loanFollowsWrong)

/-- 'usufructlaw22.LoanEnds': WHATEVER THE INPUT: true; the input reads as it did. -/
def loanEndsSpec : ChangeSpec := { name := "loanEnds", fn := fun _ => fun
  | [d] => { results := [.lit (.bool true)], args := [d] }
  | _ => none }
def loanEndsRow : OpenClaim := { program := "ytobhpkagbmadlaa", sum := "2eed1b72d4a958e078c3b55f7131fdc978a275a5f8ec3b5379a4c1b6d964eaf9", func := "usufruct/usufructlaw22.LoanEnds", spec := "loanEnds", unfollowed := true, recurses := true, loops := true, plainKeys := false, apart := false }
def LoanEndsSaid : Prop := loanEndsRow.holds Try.pinned (OpenSpec.ofChange loanEndsSpec)

/-- ITS FALSE NEIGHBOUR: 'it returns false'. Refute it at one input. -/
def loanEndsWrong : ChangeSpec := { name := "loanEnds", fn := fun _ => fun
  | [d] => { results := [.lit (.bool false)], args := [d] }
  | _ => none }
def LoanEndsWrongFalsely : Prop := loanEndsRow.holds Try.pinned (OpenSpec.ofChange loanEndsWrong)

/-- 'usufructlaw19.LiveSets': WHATEVER THE INPUT: true; the input reads as it did. -/
def liveSetsSpec : ChangeSpec := { name := "liveSets", fn := fun _ => fun
  | [d] => { results := [.lit (.bool true)], args := [d] }
  | _ => none }
def liveSetsRow : OpenClaim := { program := "ytobhpkagbmadlaa", sum := "2eed1b72d4a958e078c3b55f7131fdc978a275a5f8ec3b5379a4c1b6d964eaf9", func := "usufruct/usufructlaw19.LiveSets", spec := "liveSets", unfollowed := true, recurses := true, loops := true, plainKeys := false, apart := false }
def LiveSetsSaid : Prop := liveSetsRow.holds Try.pinned (OpenSpec.ofChange liveSetsSpec)

/-- ITS FALSE NEIGHBOUR: 'it returns false'. Refute it at one input. -/
def liveSetsWrong : ChangeSpec := { name := "liveSets", fn := fun _ => fun
  | [d] => { results := [.lit (.bool false)], args := [d] }
  | _ => none }
def LiveSetsWrongFalsely : Prop := liveSetsRow.holds Try.pinned (OpenSpec.ofChange liveSetsWrong)

/-- 'usufructlaw19.LiveAsks': WHATEVER THE INPUT: true; the input reads as it did. -/
def liveAsksSpec : ChangeSpec := { name := "liveAsks", fn := fun _ => fun
  | [d1, d2] => { results := [.lit (.bool true)], args := [d1, d2] }
  | _ => none }
def liveAsksRow : OpenClaim := { program := "ytobhpkagbmadlaa", sum := "2eed1b72d4a958e078c3b55f7131fdc978a275a5f8ec3b5379a4c1b6d964eaf9", func := "usufruct/usufructlaw19.LiveAsks", spec := "liveAsks", unfollowed := true, recurses := true, loops := true, plainKeys := false, apart := false }
def LiveAsksSaid : Prop := liveAsksRow.holds Try.pinned (OpenSpec.ofChange liveAsksSpec)

/-- ITS FALSE NEIGHBOUR: 'it returns false'. Refute it at one input. -/
def liveAsksWrong : ChangeSpec := { name := "liveAsks", fn := fun _ => fun
  | [d1, d2] => { results := [.lit (.bool false)], args := [d1, d2] }
  | _ => none }
def LiveAsksWrongFalsely : Prop := liveAsksRow.holds Try.pinned (OpenSpec.ofChange liveAsksWrong)

/-- 'usufructlaw19.LiveWays': WHATEVER THE INPUT: true; the input reads as it did. -/
def liveWaysSpec : ChangeSpec := { name := "liveWays", fn := fun _ => fun
  | [d1, d2] => { results := [.lit (.bool true)], args := [d1, d2] }
  | _ => none }
def liveWaysRow : OpenClaim := { program := "ytobhpkagbmadlaa", sum := "2eed1b72d4a958e078c3b55f7131fdc978a275a5f8ec3b5379a4c1b6d964eaf9", func := "usufruct/usufructlaw19.LiveWays", spec := "liveWays", unfollowed := true, recurses := true, loops := true, plainKeys := false, apart := false }
def LiveWaysSaid : Prop := liveWaysRow.holds Try.pinned (OpenSpec.ofChange liveWaysSpec)

/-- ITS FALSE NEIGHBOUR: 'it returns false'. Refute it at one input. -/
def liveWaysWrong : ChangeSpec := { name := "liveWays", fn := fun _ => fun
  | [d1, d2] => { results := [.lit (.bool false)], args := [d1, d2] }
  | _ => none }
def LiveWaysWrongFalsely : Prop := liveWaysRow.holds Try.pinned (OpenSpec.ofChange liveWaysWrong)

/-- 'usufructlaw19.LiveNever': WHATEVER THE INPUT: true; the input reads as it did. -/
def liveNeverSpec : ChangeSpec := { name := "liveNever", fn := fun _ => fun
  | [d] => { results := [.lit (.bool true)], args := [d] }
  | _ => none }
def liveNeverRow : OpenClaim := { program := "ytobhpkagbmadlaa", sum := "2eed1b72d4a958e078c3b55f7131fdc978a275a5f8ec3b5379a4c1b6d964eaf9", func := "usufruct/usufructlaw19.LiveNever", spec := "liveNever", unfollowed := true, recurses := true, loops := true, plainKeys := false, apart := false }
def LiveNeverSaid : Prop := liveNeverRow.holds Try.pinned (OpenSpec.ofChange liveNeverSpec)

/-- ITS FALSE NEIGHBOUR: 'it returns false'. Refute it at one input. -/
def liveNeverWrong : ChangeSpec := { name := "liveNever", fn := fun _ => fun
  | [d] => { results := [.lit (.bool false)], args := [d] }
  | _ => none }
def LiveNeverWrongFalsely : Prop := liveNeverRow.holds Try.pinned (OpenSpec.ofChange liveNeverWrong)

/- THE SECOND FORM. 'bulk': how many values and letters a reading holds, each counted each time it is reached (what is shared counts as often as it is met; a slice's spare places count too). A statement '..UptoSaid' is the law's where the arguments, and the package variables that the reading takes, are together of bulk at most 1048576: NARROWER than '..Said'. Prove '..Said' where nothing that the law and all that it calls make is longer than what came in: it says more and counts as full. Else prove '..UptoSaid'. A law counts once. -/
mutual
def uptoBulk {H : Type} : DataW H → Nat
  | .lit (.string bytes) => bytes.length + 1
  | .lit _ => 1
  | .nil => 1
  | .ptr d => uptoBulk d + 1
  | .slice elems spare => uptoBulkAll elems + uptoBulkAll spare + 1
  | .agg parts => uptoBulkAll parts + 1
  | .iface _ d => uptoBulk d + 1
  | .map entries => uptoBulkEntries entries + 1
  | .held _ => 1
def uptoBulkAll {H : Type} : List (DataW H) → Nat
  | [] => 0
  | d :: r => uptoBulk d + uptoBulkAll r
def uptoBulkEntries {H : Type} : List (Lit × DataW H) → Nat
  | [] => 0
  | x :: r => uptoBulkEntry x + uptoBulkEntries r
def uptoBulkEntry {H : Type} : Lit × DataW H → Nat
  | (.string bytes, d) => bytes.length + uptoBulk d + 1
  | (_, d) => uptoBulk d + 1
 end
def uptoSmall : (H : Type) → List (DataW H) → Bool := fun _ ds => decide (uptoBulkAll ds ≤ 1048576)
def OpenSpec.upto (s : _root_.Go.ChangeSpec) : _root_.Go.OpenSpec := { _root_.Go.OpenSpec.ofChange s with cond := some uptoSmall }

/-- 'usufructlaw18.FlowAsks', WHERE WHAT IT READS IS OF BULK AT MOST 1048576: true; the input reads as it did. -/
def flowAsksUptoRow : OpenClaim := { program := "ytobhpkagbmadlaa", sum := "2eed1b72d4a958e078c3b55f7131fdc978a275a5f8ec3b5379a4c1b6d964eaf9", func := "usufruct/usufructlaw18.FlowAsks", spec := "flowAsks", unfollowed := true, recurses := true, loops := true, plainKeys := false, apart := false, narrowed := true }
def FlowAsksUptoSaid : Prop := flowAsksUptoRow.holds Try.pinned (OpenSpec.upto flowAsksSpec)

/-- 'usufructlaw18.FlowFollows', WHERE WHAT IT READS IS OF BULK AT MOST 1048576: true; the input reads as it did. -/
def flowFollowsUptoRow : OpenClaim := { program := "ytobhpkagbmadlaa", sum := "2eed1b72d4a958e078c3b55f7131fdc978a275a5f8ec3b5379a4c1b6d964eaf9", func := "usufruct/usufructlaw18.FlowFollows", spec := "flowFollows", unfollowed := true, recurses := true, loops := true, plainKeys := false, apart := false, narrowed := true }
def FlowFollowsUptoSaid : Prop := flowFollowsUptoRow.holds Try.pinned (OpenSpec.upto flowFollowsSpec)

/-- 'usufructlaw18.FlowTurns', WHERE WHAT IT READS IS OF BULK AT MOST 1048576: true; the input reads as it did. -/
def flowTurnsUptoRow : OpenClaim := { program := "ytobhpkagbmadlaa", sum := "2eed1b72d4a958e078c3b55f7131fdc978a275a5f8ec3b5379a4c1b6d964eaf9", func := "usufruct/usufructlaw18.FlowTurns", spec := "flowTurns", unfollowed := true, recurses := true, loops := true, plainKeys := false, apart := false, narrowed := true }
def FlowTurnsUptoSaid : Prop := flowTurnsUptoRow.holds Try.pinned (OpenSpec.upto flowTurnsSpec)

/-- 'usufructlaw22.LoanFollows', WHERE WHAT IT READS IS OF BULK AT MOST 1048576: true; the input reads as it did. -/
def loanFollowsUptoRow : OpenClaim := { program := "ytobhpkagbmadlaa", sum := "2eed1b72d4a958e078c3b55f7131fdc978a275a5f8ec3b5379a4c1b6d964eaf9", func := "usufruct/usufructlaw22.LoanFollows", spec := "loanFollows", unfollowed := true, recurses := true, loops := true, plainKeys := false, apart := false, narrowed := true }
def LoanFollowsUptoSaid : Prop := loanFollowsUptoRow.holds Try.pinned (OpenSpec.upto loanFollowsSpec)

/-- 'usufructlaw22.LoanEnds', WHERE WHAT IT READS IS OF BULK AT MOST 1048576: true; the input reads as it did. -/
def loanEndsUptoRow : OpenClaim := { program := "ytobhpkagbmadlaa", sum := "2eed1b72d4a958e078c3b55f7131fdc978a275a5f8ec3b5379a4c1b6d964eaf9", func := "usufruct/usufructlaw22.LoanEnds", spec := "loanEnds", unfollowed := true, recurses := true, loops := true, plainKeys := false, apart := false, narrowed := true }
def LoanEndsUptoSaid : Prop := loanEndsUptoRow.holds Try.pinned (OpenSpec.upto loanEndsSpec)

/-- 'usufructlaw19.LiveSets', WHERE WHAT IT READS IS OF BULK AT MOST 1048576: true; the input reads as it did. -/
def liveSetsUptoRow : OpenClaim := { program := "ytobhpkagbmadlaa", sum := "2eed1b72d4a958e078c3b55f7131fdc978a275a5f8ec3b5379a4c1b6d964eaf9", func := "usufruct/usufructlaw19.LiveSets", spec := "liveSets", unfollowed := true, recurses := true, loops := true, plainKeys := false, apart := false, narrowed := true }
def LiveSetsUptoSaid : Prop := liveSetsUptoRow.holds Try.pinned (OpenSpec.upto liveSetsSpec)

/-- 'usufructlaw19.LiveAsks', WHERE WHAT IT READS IS OF BULK AT MOST 1048576: true; the input reads as it did. -/
def liveAsksUptoRow : OpenClaim := { program := "ytobhpkagbmadlaa", sum := "2eed1b72d4a958e078c3b55f7131fdc978a275a5f8ec3b5379a4c1b6d964eaf9", func := "usufruct/usufructlaw19.LiveAsks", spec := "liveAsks", unfollowed := true, recurses := true, loops := true, plainKeys := false, apart := false, narrowed := true }
def LiveAsksUptoSaid : Prop := liveAsksUptoRow.holds Try.pinned (OpenSpec.upto liveAsksSpec)

/-- 'usufructlaw19.LiveWays', WHERE WHAT IT READS IS OF BULK AT MOST 1048576: true; the input reads as it did. -/
def liveWaysUptoRow : OpenClaim := { program := "ytobhpkagbmadlaa", sum := "2eed1b72d4a958e078c3b55f7131fdc978a275a5f8ec3b5379a4c1b6d964eaf9", func := "usufruct/usufructlaw19.LiveWays", spec := "liveWays", unfollowed := true, recurses := true, loops := true, plainKeys := false, apart := false, narrowed := true }
def LiveWaysUptoSaid : Prop := liveWaysUptoRow.holds Try.pinned (OpenSpec.upto liveWaysSpec)

/-- 'usufructlaw19.LiveNever', WHERE WHAT IT READS IS OF BULK AT MOST 1048576: true; the input reads as it did. -/
def liveNeverUptoRow : OpenClaim := { program := "ytobhpkagbmadlaa", sum := "2eed1b72d4a958e078c3b55f7131fdc978a275a5f8ec3b5379a4c1b6d964eaf9", func := "usufruct/usufructlaw19.LiveNever", spec := "liveNever", unfollowed := true, recurses := true, loops := true, plainKeys := false, apart := false, narrowed := true }
def LiveNeverUptoSaid : Prop := liveNeverUptoRow.holds Try.pinned (OpenSpec.upto liveNeverSpec)

end Rows
end Go.Proofs.Ytobhpkagbmadlaa
