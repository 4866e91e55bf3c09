/-
  NARROWER THAN 'FOR EVERY INPUT', by the rows' own cells (each row's printed sentence says how): ScopeNews: loops, laid · ScopeOver: loops, laid · ScopeShows: loops, laid · ScopeFront: loops, laid · ScopePrivate: loops, laid.
  DERIVED. THE GIVEN ROWS OF THIS SEAT. 5 by the template 'for every input the law returns true; each argument reads behind the call as it read before'; 0 by the template 'total and deterministic' (their statements: YtlnphjjhfgghkaaGreatDoorTotals.lean).
  GIVEN WITH THE SEED: the statements are not yours to turn. If you find one false, say at which input.
  Laid BY PROGRAM, IN A SANDBOX (cutbox-rows.mjs): the forced cells as the released guide's own fill.sh prints them over the translation a9971d0b28577e71… (all of the seat's roots in one cut). By AI agents, Wed Nov 11 2026. No macro, syntax, notation, axiom, sorry.
-/
import Derived.Test.YtlnphjjhfgghkaaGreatDoorChecked
import GoSem.Claim
import GoSem.ClaimJoined
import GoSem.ClaimMapViews
import Derived.JoinedTies
import Derived.KernelRfl
namespace Go.Proofs.YtlnphjjhfgghkaaGreatDoor
/- THE CELL 'sum', in the pinned program and in every row, IS THE sha256 OF THE DUMP (.gsa) THAT YtlnphjjhfgghkaaGreatDoorProg.lean LOADS. Nothing in Lean hashes anything: it is a label: what it is worth is what the hold of that sum in a sandbox is worth. -/
noncomputable def Tryz.pinned : Pinned := { name := "ytlnphjjhfgghkaagreatdoor", sum := "a9971d0b28577e718c6b0910a20387726d8a39f2e8f8dcba910cbb7bcaaccd8a", checked := Tryz.checked }
namespace Rows
def none {H : Type} : Left H := { results := [], args := [] }

/- WHAT THE LISTED PACKAGE-LEVEL VARIABLES READ AS WHEN THE CALL BEGINS. Each datum BY PROGRAM (the guide's laid-datum.mjs) off the statement by which the dump's own 'gosem.cut.vars' lays the variable. In a bare row this is a premise. The card (YtlnphjjhfgghkaaGreatDoorCards.lean) ties it to the program's text. -/
def laid_errors_errorType {H : Type} : DataW H := .iface "internal/reflectlite.rtype" (.agg [.ptr (.lit (.string [101, 114, 114, 111, 114]))])

/-- 'usufructlaw13.ScopeNews': WHATEVER THE INPUT: true; the input reads as it did. -/
def scopeNewsSpec : ChangeSpec := { name := "scopeNews", fn := fun _ => fun
  | [d1, d2, d3, d4] => { results := [.lit (.bool true)], args := [d1, d2, d3, d4] }
  | _ => none }
def scopeNewsRow : OpenClaim := { program := "ytlnphjjhfgghkaagreatdoor", sum := "a9971d0b28577e718c6b0910a20387726d8a39f2e8f8dcba910cbb7bcaaccd8a", func := "usufruct/usufructlaw13.ScopeNews", spec := "scopeNews", inPlace := ["internal/bytealg.IndexByteString", "internal/bytealg.IndexString", "internal/reflectlite.ValueOf", "(internal/reflectlite.Value).Type", "(internal/reflectlite.Value).IsNil", "internal/reflectlite.TypeOf", "(internal/reflectlite.Value).Elem", "(internal/reflectlite.Value).Set"], unfollowed := true, recurses := true, named := ["internal/bytealg.MaxLen", "errors.errorType"], loops := true, apart := false, laid := [("errors.errorType", laid_errors_errorType)] }
def ScopeNewsSaid : Prop := scopeNewsRow.holds Tryz.pinned (OpenSpec.ofChange scopeNewsSpec)

/-- ITS FALSE NEIGHBOUR: 'it returns false'. Refute it at one input. -/
def scopeNewsWrong : ChangeSpec := { name := "scopeNews", fn := fun _ => fun
  | [d1, d2, d3, d4] => { results := [.lit (.bool false)], args := [d1, d2, d3, d4] }
  | _ => none }
def ScopeNewsWrongFalsely : Prop := scopeNewsRow.holds Tryz.pinned (OpenSpec.ofChange scopeNewsWrong)

/-- 'usufructlaw13.ScopeOver': WHATEVER THE INPUT: true; the input reads as it did. -/
def scopeOverSpec : ChangeSpec := { name := "scopeOver", fn := fun _ => fun
  | [d1, d2, d3, d4] => { results := [.lit (.bool true)], args := [d1, d2, d3, d4] }
  | _ => none }
def scopeOverRow : OpenClaim := { program := "ytlnphjjhfgghkaagreatdoor", sum := "a9971d0b28577e718c6b0910a20387726d8a39f2e8f8dcba910cbb7bcaaccd8a", func := "usufruct/usufructlaw13.ScopeOver", spec := "scopeOver", inPlace := ["internal/bytealg.IndexByteString", "internal/bytealg.IndexString", "internal/reflectlite.ValueOf", "(internal/reflectlite.Value).Type", "(internal/reflectlite.Value).IsNil", "internal/reflectlite.TypeOf", "(internal/reflectlite.Value).Elem", "(internal/reflectlite.Value).Set"], unfollowed := true, recurses := true, named := ["internal/bytealg.MaxLen", "errors.errorType"], loops := true, apart := false, laid := [("errors.errorType", laid_errors_errorType)] }
def ScopeOverSaid : Prop := scopeOverRow.holds Tryz.pinned (OpenSpec.ofChange scopeOverSpec)

/-- ITS FALSE NEIGHBOUR: 'it returns false'. Refute it at one input. -/
def scopeOverWrong : ChangeSpec := { name := "scopeOver", fn := fun _ => fun
  | [d1, d2, d3, d4] => { results := [.lit (.bool false)], args := [d1, d2, d3, d4] }
  | _ => none }
def ScopeOverWrongFalsely : Prop := scopeOverRow.holds Tryz.pinned (OpenSpec.ofChange scopeOverWrong)

/-- 'usufructlaw13.ScopeShows': WHATEVER THE INPUT: true; the input reads as it did. -/
def scopeShowsSpec : ChangeSpec := { name := "scopeShows", fn := fun _ => fun
  | [d1, d2] => { results := [.lit (.bool true)], args := [d1, d2] }
  | _ => none }
def scopeShowsRow : OpenClaim := { program := "ytlnphjjhfgghkaagreatdoor", sum := "a9971d0b28577e718c6b0910a20387726d8a39f2e8f8dcba910cbb7bcaaccd8a", func := "usufruct/usufructlaw13.ScopeShows", spec := "scopeShows", inPlace := ["internal/bytealg.IndexByteString", "internal/bytealg.IndexString", "internal/reflectlite.ValueOf", "(internal/reflectlite.Value).Type", "(internal/reflectlite.Value).IsNil", "internal/reflectlite.TypeOf", "(internal/reflectlite.Value).Elem", "(internal/reflectlite.Value).Set"], unfollowed := true, recurses := true, named := ["internal/bytealg.MaxLen", "errors.errorType"], loops := true, apart := false, laid := [("errors.errorType", laid_errors_errorType)] }
def ScopeShowsSaid : Prop := scopeShowsRow.holds Tryz.pinned (OpenSpec.ofChange scopeShowsSpec)

/-- ITS FALSE NEIGHBOUR: 'it returns false'. Refute it at one input. -/
def scopeShowsWrong : ChangeSpec := { name := "scopeShows", fn := fun _ => fun
  | [d1, d2] => { results := [.lit (.bool false)], args := [d1, d2] }
  | _ => none }
def ScopeShowsWrongFalsely : Prop := scopeShowsRow.holds Tryz.pinned (OpenSpec.ofChange scopeShowsWrong)

/-- 'usufructlaw13.ScopeFront': WHATEVER THE INPUT: true; the input reads as it did. -/
def scopeFrontSpec : ChangeSpec := { name := "scopeFront", fn := fun _ => fun
  | [d1, d2] => { results := [.lit (.bool true)], args := [d1, d2] }
  | _ => none }
def scopeFrontRow : OpenClaim := { program := "ytlnphjjhfgghkaagreatdoor", sum := "a9971d0b28577e718c6b0910a20387726d8a39f2e8f8dcba910cbb7bcaaccd8a", func := "usufruct/usufructlaw13.ScopeFront", spec := "scopeFront", inPlace := ["internal/bytealg.IndexByteString", "internal/bytealg.IndexString", "internal/reflectlite.ValueOf", "(internal/reflectlite.Value).Type", "(internal/reflectlite.Value).IsNil", "internal/reflectlite.TypeOf", "(internal/reflectlite.Value).Elem", "(internal/reflectlite.Value).Set"], unfollowed := true, recurses := true, named := ["internal/bytealg.MaxLen", "errors.errorType"], loops := true, apart := false, laid := [("errors.errorType", laid_errors_errorType)] }
def ScopeFrontSaid : Prop := scopeFrontRow.holds Tryz.pinned (OpenSpec.ofChange scopeFrontSpec)

/-- ITS FALSE NEIGHBOUR: 'it returns false'. Refute it at one input. -/
def scopeFrontWrong : ChangeSpec := { name := "scopeFront", fn := fun _ => fun
  | [d1, d2] => { results := [.lit (.bool false)], args := [d1, d2] }
  | _ => none }
def ScopeFrontWrongFalsely : Prop := scopeFrontRow.holds Tryz.pinned (OpenSpec.ofChange scopeFrontWrong)

/-- 'usufructlaw13.ScopePrivate': WHATEVER THE INPUT: true; the input reads as it did. -/
def scopePrivateSpec : ChangeSpec := { name := "scopePrivate", fn := fun _ => fun
  | [d] => { results := [.lit (.bool true)], args := [d] }
  | _ => none }
def scopePrivateRow : OpenClaim := { program := "ytlnphjjhfgghkaagreatdoor", sum := "a9971d0b28577e718c6b0910a20387726d8a39f2e8f8dcba910cbb7bcaaccd8a", func := "usufruct/usufructlaw13.ScopePrivate", spec := "scopePrivate", inPlace := ["internal/bytealg.IndexByteString", "internal/bytealg.IndexString", "internal/reflectlite.ValueOf", "(internal/reflectlite.Value).Type", "(internal/reflectlite.Value).IsNil", "internal/reflectlite.TypeOf", "(internal/reflectlite.Value).Elem", "(internal/reflectlite.Value).Set"], unfollowed := true, recurses := true, named := ["internal/bytealg.MaxLen", "errors.errorType"], loops := true, apart := false, laid := [("errors.errorType", laid_errors_errorType)] }
def ScopePrivateSaid : Prop := scopePrivateRow.holds Tryz.pinned (OpenSpec.ofChange scopePrivateSpec)

/-- ITS FALSE NEIGHBOUR: 'it returns false'. Refute it at one input. -/
def scopePrivateWrong : ChangeSpec := { name := "scopePrivate", fn := fun _ => fun
  | [d] => { results := [.lit (.bool false)], args := [d] }
  | _ => none }
def ScopePrivateWrongFalsely : Prop := scopePrivateRow.holds Tryz.pinned (OpenSpec.ofChange scopePrivateWrong)

/- THE SECOND FORM. 'bulk': how many values and letters a reading holds, each counted each time it is reached (what is shared counts as often as it is met; a slice's spare places count too). A statement '..UptoSaid' is the law's where the arguments, and the package variables that the reading takes, are together of bulk at most 1048576: NARROWER than '..Said'. Prove '..Said' where nothing that the law and all that it calls make is longer than what came in: it says more and counts as full. Else prove '..UptoSaid'. A law counts once. -/
mutual
def uptoBulk {H : Type} : DataW H → Nat
  | .lit (.string bytes) => bytes.length + 1
  | .lit _ => 1
  | .nil => 1
  | .ptr d => uptoBulk d + 1
  | .slice elems spare => uptoBulkAll elems + uptoBulkAll spare + 1
  | .agg parts => uptoBulkAll parts + 1
  | .iface _ d => uptoBulk d + 1
  | .map entries => uptoBulkEntries entries + 1
  | .held _ => 1
def uptoBulkAll {H : Type} : List (DataW H) → Nat
  | [] => 0
  | d :: r => uptoBulk d + uptoBulkAll r
def uptoBulkEntries {H : Type} : List (Lit × DataW H) → Nat
  | [] => 0
  | x :: r => uptoBulkEntry x + uptoBulkEntries r
def uptoBulkEntry {H : Type} : Lit × DataW H → Nat
  | (.string bytes, d) => bytes.length + uptoBulk d + 1
  | (_, d) => uptoBulk d + 1
 end
def uptoSmall : (H : Type) → List (DataW H) → Bool := fun _ ds => decide (uptoBulkAll ds ≤ 1048576)
def OpenSpec.upto (s : _root_.Go.ChangeSpec) : _root_.Go.OpenSpec := { _root_.Go.OpenSpec.ofChange s with cond := some uptoSmall }

/-- 'usufructlaw13.ScopeNews', WHERE WHAT IT READS IS OF BULK AT MOST 1048576: true; the input reads as it did. -/
def scopeNewsUptoRow : OpenClaim := { program := "ytlnphjjhfgghkaagreatdoor", sum := "a9971d0b28577e718c6b0910a20387726d8a39f2e8f8dcba910cbb7bcaaccd8a", func := "usufruct/usufructlaw13.ScopeNews", spec := "scopeNews", inPlace := ["internal/bytealg.IndexByteString", "internal/bytealg.IndexString", "internal/reflectlite.ValueOf", "(internal/reflectlite.Value).Type", "(internal/reflectlite.Value).IsNil", "internal/reflectlite.TypeOf", "(internal/reflectlite.Value).Elem", "(internal/reflectlite.Value).Set"], unfollowed := true, recurses := true, named := ["internal/bytealg.MaxLen", "errors.errorType"], loops := true, apart := false, laid := [("errors.errorType", laid_errors_errorType)], narrowed := true }
def ScopeNewsUptoSaid : Prop := scopeNewsUptoRow.holds Tryz.pinned (OpenSpec.upto scopeNewsSpec)

/-- 'usufructlaw13.ScopeOver', WHERE WHAT IT READS IS OF BULK AT MOST 1048576: true; the input reads as it did. -/
def scopeOverUptoRow : OpenClaim := { program := "ytlnphjjhfgghkaagreatdoor", sum := "a9971d0b28577e718c6b0910a20387726d8a39f2e8f8dcba910cbb7bcaaccd8a", func := "usufruct/usufructlaw13.ScopeOver", spec := "scopeOver", inPlace := ["internal/bytealg.IndexByteString", "internal/bytealg.IndexString", "internal/reflectlite.ValueOf", "(internal/reflectlite.Value).Type", "(internal/reflectlite.Value).IsNil", "internal/reflectlite.TypeOf", "(internal/reflectlite.Value).Elem", "(internal/reflectlite.Value).Set"], unfollowed := true, recurses := true, named := ["internal/bytealg.MaxLen", "errors.errorType"], loops := true, apart := false, laid := [("errors.errorType", laid_errors_errorType)], narrowed := true }
def ScopeOverUptoSaid : Prop := scopeOverUptoRow.holds Tryz.pinned (OpenSpec.upto scopeOverSpec)

/-- 'usufructlaw13.ScopeShows', WHERE WHAT IT READS IS OF BULK AT MOST 1048576: true; the input reads as it did. -/
def scopeShowsUptoRow : OpenClaim := { program := "ytlnphjjhfgghkaagreatdoor", sum := "a9971d0b28577e718c6b0910a20387726d8a39f2e8f8dcba910cbb7bcaaccd8a", func := "usufruct/usufructlaw13.ScopeShows", spec := "scopeShows", inPlace := ["internal/bytealg.IndexByteString", "internal/bytealg.IndexString", "internal/reflectlite.ValueOf", "(internal/reflectlite.Value).Type", "(internal/reflectlite.Value).IsNil", "internal/reflectlite.TypeOf", "(internal/reflectlite.Value).Elem", "(internal/reflectlite.Value).Set"], unfollowed := true, recurses := true, named := ["internal/bytealg.MaxLen", "errors.errorType"], loops := true, apart := false, laid := [("errors.errorType", laid_errors_errorType)], narrowed := true }
def ScopeShowsUptoSaid : Prop := scopeShowsUptoRow.holds Tryz.pinned (OpenSpec.upto scopeShowsSpec)

/-- 'usufructlaw13.ScopeFront', WHERE WHAT IT READS IS OF BULK AT MOST 1048576: true; the input reads as it did. -/
def scopeFrontUptoRow : OpenClaim := { program := "ytlnphjjhfgghkaagreatdoor", sum := "a9971d0b28577e718c6b0910a20387726d8a39f2e8f8dcba910cbb7bcaaccd8a", func := "usufruct/usufructlaw13.ScopeFront", spec := "scopeFront", inPlace := ["internal/bytealg.IndexByteString", "internal/bytealg.IndexString", "internal/reflectlite.ValueOf", "(internal/reflectlite.Value).Type", "(internal/reflectlite.Value).IsNil", "internal/reflectlite.TypeOf", "(internal/reflectlite.Value).Elem", "(internal/reflectlite.Value).Set"], unfollowed := true, recurses := true, named := ["internal/bytealg.MaxLen", "errors.errorType"], loops := true, apart := false, laid := [("errors.errorType", laid_errors_errorType)], narrowed := true }
def ScopeFrontUptoSaid : Prop := scopeFrontUptoRow.holds Tryz.pinned (OpenSpec.upto scopeFrontSpec)

/-- 'usufructlaw13.ScopePrivate', WHERE WHAT IT READS IS OF BULK AT MOST 1048576: true; the input reads as it did. -/
def scopePrivateUptoRow : OpenClaim := { program := "ytlnphjjhfgghkaagreatdoor", sum := "a9971d0b28577e718c6b0910a20387726d8a39f2e8f8dcba910cbb7bcaaccd8a", func := "usufruct/usufructlaw13.ScopePrivate", spec := "scopePrivate", inPlace := ["internal/bytealg.IndexByteString", "internal/bytealg.IndexString", "internal/reflectlite.ValueOf", "(internal/reflectlite.Value).Type", "(internal/reflectlite.Value).IsNil", "internal/reflectlite.TypeOf", "(internal/reflectlite.Value).Elem", "(internal/reflectlite.Value).Set"], unfollowed := true, recurses := true, named := ["internal/bytealg.MaxLen", "errors.errorType"], loops := true, apart := false, laid := [("errors.errorType", laid_errors_errorType)], narrowed := true }
def ScopePrivateUptoSaid : Prop := scopePrivateUptoRow.holds Tryz.pinned (OpenSpec.upto scopePrivateSpec)

end Rows
end Go.Proofs.YtlnphjjhfgghkaaGreatDoor
