/-
  No cell of these rows narrows 'for every input' (looked for: loops, veiled, ifaces, maps, wideKeys, modest, calm, conditions, laid).
  DERIVED. THE GIVEN ROWS OF THIS SEAT. 5 by the template 'for every input the law returns true; each argument reads behind the call as it read before'; 0 by the template 'total and deterministic' (their statements: YthpffaofpcikiaaTotals.lean).
  GIVEN WITH THE SEED: the statements are not yours to turn. If you find one false, say at which input.
  Laid BY PROGRAM, IN A SANDBOX (cutbox-rows.mjs): the forced cells as the released guide's own fill.sh prints them over the translation a34363b394cf42f1… (all of the seat's roots in one cut). By AI agents, Wed Nov 11 2026. No macro, syntax, notation, axiom, sorry.
-/
import Derived.Test.YthpffaofpcikiaaChecked
import GoSem.Claim
import GoSem.ClaimJoined
import GoSem.ClaimMapViews
import Derived.JoinedTies
import Derived.KernelRfl
namespace Go.Proofs.Ythpffaofpcikiaa
/- THE CELL 'sum', in the pinned program and in every row, IS THE sha256 OF THE DUMP (.gsa) THAT YthpffaofpcikiaaProg.lean LOADS. Nothing in Lean hashes anything: it is a label: what it is worth is what the hold of that sum in a sandbox is worth. -/
noncomputable def Try.pinned : Pinned := { name := "ythpffaofpcikiaa", sum := "a34363b394cf42f13a899435b1af6041aee0ae4963e2bfba9494c36b9e27f3ae", checked := Try.checked }
namespace Rows
def none {H : Type} : Left H := { results := [], args := [] }

/-- 'usufructlaw4.CasRooms': WHATEVER THE INPUT: true; the input reads as it did. -/
def casRoomsSpec : ChangeSpec := { name := "casRooms", fn := fun _ => fun
  | [d] => { results := [.lit (.bool true)], args := [d] }
  | _ => none }
def casRoomsRow : OpenClaim := { program := "ythpffaofpcikiaa", sum := "a34363b394cf42f13a899435b1af6041aee0ae4963e2bfba9494c36b9e27f3ae", func := "usufruct/usufructlaw4.CasRooms", spec := "casRooms", plainKeys := false, apart := false }
def CasRoomsSaid : Prop := casRoomsRow.holds Try.pinned (OpenSpec.ofChange casRoomsSpec)

/-- ITS FALSE NEIGHBOUR: 'it returns false'. Refute it at one input. -/
def casRoomsWrong : ChangeSpec := { name := "casRooms", fn := fun _ => fun
  | [d] => { results := [.lit (.bool false)], args := [d] }
  | _ => none }
def CasRoomsWrongFalsely : Prop := casRoomsRow.holds Try.pinned (OpenSpec.ofChange casRoomsWrong)

/-- 'usufructlaw4.CasClash': WHATEVER THE INPUT: true; the input reads as it did. -/
def casClashSpec : ChangeSpec := { name := "casClash", fn := fun _ => fun
  | [d] => { results := [.lit (.bool true)], args := [d] }
  | _ => none }
def casClashRow : OpenClaim := { program := "ythpffaofpcikiaa", sum := "a34363b394cf42f13a899435b1af6041aee0ae4963e2bfba9494c36b9e27f3ae", func := "usufruct/usufructlaw4.CasClash", spec := "casClash", plainKeys := false, apart := false }
def CasClashSaid : Prop := casClashRow.holds Try.pinned (OpenSpec.ofChange casClashSpec)

/-- ITS FALSE NEIGHBOUR: 'it returns false'. Refute it at one input. -/
def casClashWrong : ChangeSpec := { name := "casClash", fn := fun _ => fun
  | [d] => { results := [.lit (.bool false)], args := [d] }
  | _ => none }
def CasClashWrongFalsely : Prop := casClashRow.holds Try.pinned (OpenSpec.ofChange casClashWrong)

/-- 'usufructlaw4.CasKeeps': WHATEVER THE INPUT: true; the input reads as it did. -/
def casKeepsSpec : ChangeSpec := { name := "casKeeps", fn := fun _ => fun
  | [d1, d2] => { results := [.lit (.bool true)], args := [d1, d2] }
  | _ => none }
def casKeepsRow : OpenClaim := { program := "ythpffaofpcikiaa", sum := "a34363b394cf42f13a899435b1af6041aee0ae4963e2bfba9494c36b9e27f3ae", func := "usufruct/usufructlaw4.CasKeeps", spec := "casKeeps", plainKeys := false, apart := false }
def CasKeepsSaid : Prop := casKeepsRow.holds Try.pinned (OpenSpec.ofChange casKeepsSpec)

/-- ITS FALSE NEIGHBOUR: 'it returns false'. Refute it at one input. -/
def casKeepsWrong : ChangeSpec := { name := "casKeeps", fn := fun _ => fun
  | [d1, d2] => { results := [.lit (.bool false)], args := [d1, d2] }
  | _ => none }
def CasKeepsWrongFalsely : Prop := casKeepsRow.holds Try.pinned (OpenSpec.ofChange casKeepsWrong)

/-- 'usufructlaw4.CasOrder': WHATEVER THE INPUT: true; the input reads as it did. -/
def casOrderSpec : ChangeSpec := { name := "casOrder", fn := fun _ => fun
  | [d] => { results := [.lit (.bool true)], args := [d] }
  | _ => none }
def casOrderRow : OpenClaim := { program := "ythpffaofpcikiaa", sum := "a34363b394cf42f13a899435b1af6041aee0ae4963e2bfba9494c36b9e27f3ae", func := "usufruct/usufructlaw4.CasOrder", spec := "casOrder", inPlace := ["internal/bytealg.Compare"], unfollowed := true, recurses := true, plainKeys := false, apart := false }
def CasOrderSaid : Prop := casOrderRow.holds Try.pinned (OpenSpec.ofChange casOrderSpec)

/-- ITS FALSE NEIGHBOUR: 'it returns false'. Refute it at one input. -/
def casOrderWrong : ChangeSpec := { name := "casOrder", fn := fun _ => fun
  | [d] => { results := [.lit (.bool false)], args := [d] }
  | _ => none }
def CasOrderWrongFalsely : Prop := casOrderRow.holds Try.pinned (OpenSpec.ofChange casOrderWrong)

/-- 'usufructlaw4.CasPlays': WHATEVER THE INPUT: true; the input reads as it did. -/
def casPlaysSpec : ChangeSpec := { name := "casPlays", fn := fun _ => fun
  | [d1, d2] => { results := [.lit (.bool true)], args := [d1, d2] }
  | _ => none }
def casPlaysRow : OpenClaim := { program := "ythpffaofpcikiaa", sum := "a34363b394cf42f13a899435b1af6041aee0ae4963e2bfba9494c36b9e27f3ae", func := "usufruct/usufructlaw4.CasPlays", spec := "casPlays", inPlace := ["internal/bytealg.Compare"], unfollowed := true, recurses := true, plainKeys := false, apart := false }
def CasPlaysSaid : Prop := casPlaysRow.holds Try.pinned (OpenSpec.ofChange casPlaysSpec)

/-- ITS FALSE NEIGHBOUR: 'it returns false'. Refute it at one input. -/
def casPlaysWrong : ChangeSpec := { name := "casPlays", fn := fun _ => fun
  | [d1, d2] => { results := [.lit (.bool false)], args := [d1, d2] }
  | _ => none }
def CasPlaysWrongFalsely : Prop := casPlaysRow.holds Try.pinned (OpenSpec.ofChange casPlaysWrong)

/- THE SECOND FORM. 'bulk': how many values and letters a reading holds, each counted each time it is reached (what is shared counts as often as it is met; a slice's spare places count too). A statement '..UptoSaid' is the law's where the arguments, and the package variables that the reading takes, are together of bulk at most 1048576: NARROWER than '..Said'. Prove '..Said' where nothing that the law and all that it calls make is longer than what came in: it says more and counts as full. Else prove '..UptoSaid'. A law counts once. -/
mutual
def uptoBulk {H : Type} : DataW H → Nat
  | .lit (.string bytes) => bytes.length + 1
  | .lit _ => 1
  | .nil => 1
  | .ptr d => uptoBulk d + 1
  | .slice elems spare => uptoBulkAll elems + uptoBulkAll spare + 1
  | .agg parts => uptoBulkAll parts + 1
  | .iface _ d => uptoBulk d + 1
  | .map entries => uptoBulkEntries entries + 1
  | .held _ => 1
def uptoBulkAll {H : Type} : List (DataW H) → Nat
  | [] => 0
  | d :: r => uptoBulk d + uptoBulkAll r
def uptoBulkEntries {H : Type} : List (Lit × DataW H) → Nat
  | [] => 0
  | x :: r => uptoBulkEntry x + uptoBulkEntries r
def uptoBulkEntry {H : Type} : Lit × DataW H → Nat
  | (.string bytes, d) => bytes.length + uptoBulk d + 1
  | (_, d) => uptoBulk d + 1
 end
def uptoSmall : (H : Type) → List (DataW H) → Bool := fun _ ds => decide (uptoBulkAll ds ≤ 1048576)
def OpenSpec.upto (s : _root_.Go.ChangeSpec) : _root_.Go.OpenSpec := { _root_.Go.OpenSpec.ofChange s with cond := some uptoSmall }

/-- 'usufructlaw4.CasRooms', WHERE WHAT IT READS IS OF BULK AT MOST 1048576: true; the input reads as it did. -/
def casRoomsUptoRow : OpenClaim := { program := "ythpffaofpcikiaa", sum := "a34363b394cf42f13a899435b1af6041aee0ae4963e2bfba9494c36b9e27f3ae", func := "usufruct/usufructlaw4.CasRooms", spec := "casRooms", plainKeys := false, apart := false, narrowed := true }
def CasRoomsUptoSaid : Prop := casRoomsUptoRow.holds Try.pinned (OpenSpec.upto casRoomsSpec)

/-- 'usufructlaw4.CasClash', WHERE WHAT IT READS IS OF BULK AT MOST 1048576: true; the input reads as it did. -/
def casClashUptoRow : OpenClaim := { program := "ythpffaofpcikiaa", sum := "a34363b394cf42f13a899435b1af6041aee0ae4963e2bfba9494c36b9e27f3ae", func := "usufruct/usufructlaw4.CasClash", spec := "casClash", plainKeys := false, apart := false, narrowed := true }
def CasClashUptoSaid : Prop := casClashUptoRow.holds Try.pinned (OpenSpec.upto casClashSpec)

/-- 'usufructlaw4.CasKeeps', WHERE WHAT IT READS IS OF BULK AT MOST 1048576: true; the input reads as it did. -/
def casKeepsUptoRow : OpenClaim := { program := "ythpffaofpcikiaa", sum := "a34363b394cf42f13a899435b1af6041aee0ae4963e2bfba9494c36b9e27f3ae", func := "usufruct/usufructlaw4.CasKeeps", spec := "casKeeps", plainKeys := false, apart := false, narrowed := true }
def CasKeepsUptoSaid : Prop := casKeepsUptoRow.holds Try.pinned (OpenSpec.upto casKeepsSpec)

/-- 'usufructlaw4.CasOrder', WHERE WHAT IT READS IS OF BULK AT MOST 1048576: true; the input reads as it did. -/
def casOrderUptoRow : OpenClaim := { program := "ythpffaofpcikiaa", sum := "a34363b394cf42f13a899435b1af6041aee0ae4963e2bfba9494c36b9e27f3ae", func := "usufruct/usufructlaw4.CasOrder", spec := "casOrder", inPlace := ["internal/bytealg.Compare"], unfollowed := true, recurses := true, plainKeys := false, apart := false, narrowed := true }
def CasOrderUptoSaid : Prop := casOrderUptoRow.holds Try.pinned (OpenSpec.upto casOrderSpec)

/-- 'usufructlaw4.CasPlays', WHERE WHAT IT READS IS OF BULK AT MOST 1048576: true; the input reads as it did. -/
def casPlaysUptoRow : OpenClaim := { program := "ythpffaofpcikiaa", sum := "a34363b394cf42f13a899435b1af6041aee0ae4963e2bfba9494c36b9e27f3ae", func := "usufruct/usufructlaw4.CasPlays", spec := "casPlays", inPlace := ["internal/bytealg.Compare"], unfollowed := true, recurses := true, plainKeys := false, apart := false, narrowed := true }
def CasPlaysUptoSaid : Prop := casPlaysUptoRow.holds Try.pinned (OpenSpec.upto casPlaysSpec)

end Rows
end Go.Proofs.Ythpffaofpcikiaa
