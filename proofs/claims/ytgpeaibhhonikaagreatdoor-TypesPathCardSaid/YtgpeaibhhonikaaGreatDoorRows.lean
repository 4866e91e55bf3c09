/-
  NARROWER THAN 'FOR EVERY INPUT', by the rows' own cells (each row's printed sentence says how): ScopeOver: loops, laid · TypesWell: loops, laid · TypesLift: loops, laid · TypesAsk: loops, laid · TypesSub: loops, laid · TypesOrder: loops, laid · TypesPath: loops, laid · TypesNumbers: loops, laid · CheckKnown: laid.
  DERIVED. THE GIVEN ROWS OF THIS SEAT. 9 by the template 'for every input the law returns true; each argument reads behind the call as it read before'; 0 by the template 'total and deterministic' (their statements: YtgpeaibhhonikaaGreatDoorTotals.lean).
  GIVEN WITH THE SEED: the statements are not yours to turn. If you find one false, say at which input.
  Laid BY PROGRAM, IN A SANDBOX (cutbox-rows.mjs): the forced cells as the released guide's own fill.sh prints them over the translation 7e4f1ad98c45f762… (all of the seat's roots in one cut). By AI agents, Wed Nov 11 2026. No macro, syntax, notation, axiom, sorry.
-/
import Derived.Test.YtgpeaibhhonikaaGreatDoorChecked
import GoSem.Claim
import GoSem.ClaimJoined
import GoSem.ClaimMapViews
import Derived.JoinedTies
import Derived.KernelRfl
namespace Go.Proofs.YtgpeaibhhonikaaGreatDoor
/- THE CELL 'sum', in the pinned program and in every row, IS THE sha256 OF THE DUMP (.gsa) THAT YtgpeaibhhonikaaGreatDoorProg.lean LOADS. Nothing in Lean hashes anything: it is a label: what it is worth is what the hold of that sum in a sandbox is worth. -/
noncomputable def Tryz.pinned : Pinned := { name := "ytgpeaibhhonikaagreatdoor", sum := "7e4f1ad98c45f76223d41466edce2f44171501b4cc6d856c677a1395b520cf0c", checked := Tryz.checked }
namespace Rows
def none {H : Type} : Left H := { results := [], args := [] }

/- WHAT THE LISTED PACKAGE-LEVEL VARIABLES READ AS WHEN THE CALL BEGINS. Each datum BY PROGRAM (the guide's laid-datum.mjs) off the statement by which the dump's own 'gosem.cut.vars' lays the variable. In a bare row this is a premise. The card (YtgpeaibhhonikaaGreatDoorCards.lean) ties it to the program's text. -/
def laid_errors_errorType {H : Type} : DataW H := .iface "internal/reflectlite.rtype" (.agg [.ptr (.lit (.string [101, 114, 114, 111, 114]))])

/-- 'usufructlaw13.ScopeOver': WHATEVER THE INPUT: true; the input reads as it did. -/
def scopeOverSpec : ChangeSpec := { name := "scopeOver", fn := fun _ => fun
  | [d1, d2, d3, d4] => { results := [.lit (.bool true)], args := [d1, d2, d3, d4] }
  | _ => none }
def scopeOverRow : OpenClaim := { program := "ytgpeaibhhonikaagreatdoor", sum := "7e4f1ad98c45f76223d41466edce2f44171501b4cc6d856c677a1395b520cf0c", func := "usufruct/usufructlaw13.ScopeOver", spec := "scopeOver", inPlace := ["internal/bytealg.IndexByteString", "internal/bytealg.IndexString", "internal/reflectlite.ValueOf", "(internal/reflectlite.Value).Type", "(internal/reflectlite.Value).IsNil", "internal/reflectlite.TypeOf", "(internal/reflectlite.Value).Elem", "(internal/reflectlite.Value).Set"], unfollowed := true, recurses := true, named := ["internal/bytealg.MaxLen", "errors.errorType"], loops := true, apart := false, laid := [("errors.errorType", laid_errors_errorType)] }
def ScopeOverSaid : Prop := scopeOverRow.holds Tryz.pinned (OpenSpec.ofChange scopeOverSpec)

/-- ITS FALSE NEIGHBOUR: 'it returns false'. Refute it at one input. -/
def scopeOverWrong : ChangeSpec := { name := "scopeOver", fn := fun _ => fun
  | [d1, d2, d3, d4] => { results := [.lit (.bool false)], args := [d1, d2, d3, d4] }
  | _ => none }
def ScopeOverWrongFalsely : Prop := scopeOverRow.holds Tryz.pinned (OpenSpec.ofChange scopeOverWrong)

/-- 'usufructlaw14.TypesWell': WHATEVER THE INPUT: true; the input reads as it did. -/
def typesWellSpec : ChangeSpec := { name := "typesWell", fn := fun _ => fun
  | [d] => { results := [.lit (.bool true)], args := [d] }
  | _ => none }
def typesWellRow : OpenClaim := { program := "ytgpeaibhhonikaagreatdoor", sum := "7e4f1ad98c45f76223d41466edce2f44171501b4cc6d856c677a1395b520cf0c", func := "usufruct/usufructlaw14.TypesWell", spec := "typesWell", inPlace := ["internal/bytealg.IndexByteString", "internal/bytealg.IndexString", "internal/reflectlite.ValueOf", "(internal/reflectlite.Value).Type", "(internal/reflectlite.Value).IsNil", "internal/reflectlite.TypeOf", "(internal/reflectlite.Value).Elem", "(internal/reflectlite.Value).Set"], unfollowed := true, recurses := true, named := ["internal/bytealg.MaxLen", "errors.errorType"], loops := true, apart := false, laid := [("errors.errorType", laid_errors_errorType)] }
def TypesWellSaid : Prop := typesWellRow.holds Tryz.pinned (OpenSpec.ofChange typesWellSpec)

/-- ITS FALSE NEIGHBOUR: 'it returns false'. Refute it at one input. -/
def typesWellWrong : ChangeSpec := { name := "typesWell", fn := fun _ => fun
  | [d] => { results := [.lit (.bool false)], args := [d] }
  | _ => none }
def TypesWellWrongFalsely : Prop := typesWellRow.holds Tryz.pinned (OpenSpec.ofChange typesWellWrong)

/-- 'usufructlaw14.TypesLift': WHATEVER THE INPUT: true; the input reads as it did. -/
def typesLiftSpec : ChangeSpec := { name := "typesLift", fn := fun _ => fun
  | [d1, d2, d3] => { results := [.lit (.bool true)], args := [d1, d2, d3] }
  | _ => none }
def typesLiftRow : OpenClaim := { program := "ytgpeaibhhonikaagreatdoor", sum := "7e4f1ad98c45f76223d41466edce2f44171501b4cc6d856c677a1395b520cf0c", func := "usufruct/usufructlaw14.TypesLift", spec := "typesLift", inPlace := ["internal/bytealg.IndexByteString", "internal/bytealg.IndexString", "internal/reflectlite.ValueOf", "(internal/reflectlite.Value).Type", "(internal/reflectlite.Value).IsNil", "internal/reflectlite.TypeOf", "(internal/reflectlite.Value).Elem", "(internal/reflectlite.Value).Set"], unfollowed := true, recurses := true, named := ["internal/bytealg.MaxLen", "errors.errorType"], loops := true, apart := false, laid := [("errors.errorType", laid_errors_errorType)] }
def TypesLiftSaid : Prop := typesLiftRow.holds Tryz.pinned (OpenSpec.ofChange typesLiftSpec)

/-- ITS FALSE NEIGHBOUR: 'it returns false'. Refute it at one input. -/
def typesLiftWrong : ChangeSpec := { name := "typesLift", fn := fun _ => fun
  | [d1, d2, d3] => { results := [.lit (.bool false)], args := [d1, d2, d3] }
  | _ => none }
def TypesLiftWrongFalsely : Prop := typesLiftRow.holds Tryz.pinned (OpenSpec.ofChange typesLiftWrong)

/-- 'usufructlaw14.TypesAsk': WHATEVER THE INPUT: true; the input reads as it did. -/
def typesAskSpec : ChangeSpec := { name := "typesAsk", fn := fun _ => fun
  | [d1, d2, d3, d4] => { results := [.lit (.bool true)], args := [d1, d2, d3, d4] }
  | _ => none }
def typesAskRow : OpenClaim := { program := "ytgpeaibhhonikaagreatdoor", sum := "7e4f1ad98c45f76223d41466edce2f44171501b4cc6d856c677a1395b520cf0c", func := "usufruct/usufructlaw14.TypesAsk", spec := "typesAsk", inPlace := ["internal/bytealg.IndexByteString", "internal/bytealg.IndexString", "internal/reflectlite.ValueOf", "(internal/reflectlite.Value).Type", "(internal/reflectlite.Value).IsNil", "internal/reflectlite.TypeOf", "(internal/reflectlite.Value).Elem", "(internal/reflectlite.Value).Set"], unfollowed := true, recurses := true, named := ["internal/bytealg.MaxLen", "errors.errorType"], loops := true, apart := false, laid := [("errors.errorType", laid_errors_errorType)] }
def TypesAskSaid : Prop := typesAskRow.holds Tryz.pinned (OpenSpec.ofChange typesAskSpec)

/-- ITS FALSE NEIGHBOUR: 'it returns false'. Refute it at one input. -/
def typesAskWrong : ChangeSpec := { name := "typesAsk", fn := fun _ => fun
  | [d1, d2, d3, d4] => { results := [.lit (.bool false)], args := [d1, d2, d3, d4] }
  | _ => none }
def TypesAskWrongFalsely : Prop := typesAskRow.holds Tryz.pinned (OpenSpec.ofChange typesAskWrong)

/-- 'usufructlaw14.TypesSub': WHATEVER THE INPUT: true; the input reads as it did. -/
def typesSubSpec : ChangeSpec := { name := "typesSub", fn := fun _ => fun
  | [d1, d2, d3] => { results := [.lit (.bool true)], args := [d1, d2, d3] }
  | _ => none }
def typesSubRow : OpenClaim := { program := "ytgpeaibhhonikaagreatdoor", sum := "7e4f1ad98c45f76223d41466edce2f44171501b4cc6d856c677a1395b520cf0c", func := "usufruct/usufructlaw14.TypesSub", spec := "typesSub", inPlace := ["internal/bytealg.IndexByteString", "internal/bytealg.IndexString", "internal/reflectlite.ValueOf", "(internal/reflectlite.Value).Type", "(internal/reflectlite.Value).IsNil", "internal/reflectlite.TypeOf", "(internal/reflectlite.Value).Elem", "(internal/reflectlite.Value).Set"], unfollowed := true, recurses := true, named := ["internal/bytealg.MaxLen", "errors.errorType"], loops := true, apart := false, laid := [("errors.errorType", laid_errors_errorType)] }
def TypesSubSaid : Prop := typesSubRow.holds Tryz.pinned (OpenSpec.ofChange typesSubSpec)

/-- ITS FALSE NEIGHBOUR: 'it returns false'. Refute it at one input. -/
def typesSubWrong : ChangeSpec := { name := "typesSub", fn := fun _ => fun
  | [d1, d2, d3] => { results := [.lit (.bool false)], args := [d1, d2, d3] }
  | _ => none }
def TypesSubWrongFalsely : Prop := typesSubRow.holds Tryz.pinned (OpenSpec.ofChange typesSubWrong)

/-- 'usufructlaw14.TypesOrder': WHATEVER THE INPUT: true; the input reads as it did. -/
def typesOrderSpec : ChangeSpec := { name := "typesOrder", fn := fun _ => fun
  | [d1, d2, d3] => { results := [.lit (.bool true)], args := [d1, d2, d3] }
  | _ => none }
def typesOrderRow : OpenClaim := { program := "ytgpeaibhhonikaagreatdoor", sum := "7e4f1ad98c45f76223d41466edce2f44171501b4cc6d856c677a1395b520cf0c", func := "usufruct/usufructlaw14.TypesOrder", spec := "typesOrder", inPlace := ["internal/bytealg.IndexByteString", "internal/bytealg.IndexString", "internal/reflectlite.ValueOf", "(internal/reflectlite.Value).Type", "(internal/reflectlite.Value).IsNil", "internal/reflectlite.TypeOf", "(internal/reflectlite.Value).Elem", "(internal/reflectlite.Value).Set"], unfollowed := true, recurses := true, named := ["internal/bytealg.MaxLen", "errors.errorType"], loops := true, apart := false, laid := [("errors.errorType", laid_errors_errorType)] }
def TypesOrderSaid : Prop := typesOrderRow.holds Tryz.pinned (OpenSpec.ofChange typesOrderSpec)

/-- ITS FALSE NEIGHBOUR: 'it returns false'. Refute it at one input. -/
def typesOrderWrong : ChangeSpec := { name := "typesOrder", fn := fun _ => fun
  | [d1, d2, d3] => { results := [.lit (.bool false)], args := [d1, d2, d3] }
  | _ => none }
def TypesOrderWrongFalsely : Prop := typesOrderRow.holds Tryz.pinned (OpenSpec.ofChange typesOrderWrong)

/-- 'usufructlaw14.TypesPath': WHATEVER THE INPUT: true; the input reads as it did. -/
def typesPathSpec : ChangeSpec := { name := "typesPath", fn := fun _ => fun
  | [d1, d2, d3] => { results := [.lit (.bool true)], args := [d1, d2, d3] }
  | _ => none }
def typesPathRow : OpenClaim := { program := "ytgpeaibhhonikaagreatdoor", sum := "7e4f1ad98c45f76223d41466edce2f44171501b4cc6d856c677a1395b520cf0c", func := "usufruct/usufructlaw14.TypesPath", spec := "typesPath", inPlace := ["internal/bytealg.IndexByteString", "internal/bytealg.IndexString", "internal/reflectlite.ValueOf", "(internal/reflectlite.Value).Type", "(internal/reflectlite.Value).IsNil", "internal/reflectlite.TypeOf", "(internal/reflectlite.Value).Elem", "(internal/reflectlite.Value).Set"], unfollowed := true, recurses := true, named := ["internal/bytealg.MaxLen", "errors.errorType"], loops := true, apart := false, laid := [("errors.errorType", laid_errors_errorType)] }
def TypesPathSaid : Prop := typesPathRow.holds Tryz.pinned (OpenSpec.ofChange typesPathSpec)

/-- ITS FALSE NEIGHBOUR: 'it returns false'. Refute it at one input. -/
def typesPathWrong : ChangeSpec := { name := "typesPath", fn := fun _ => fun
  | [d1, d2, d3] => { results := [.lit (.bool false)], args := [d1, d2, d3] }
  | _ => none }
def TypesPathWrongFalsely : Prop := typesPathRow.holds Tryz.pinned (OpenSpec.ofChange typesPathWrong)

/-- 'usufructlaw14.TypesNumbers': WHATEVER THE INPUT: true; the input reads as it did. -/
def typesNumbersSpec : ChangeSpec := { name := "typesNumbers", fn := fun _ => fun
  | [d1, d2, d3] => { results := [.lit (.bool true)], args := [d1, d2, d3] }
  | _ => none }
def typesNumbersRow : OpenClaim := { program := "ytgpeaibhhonikaagreatdoor", sum := "7e4f1ad98c45f76223d41466edce2f44171501b4cc6d856c677a1395b520cf0c", func := "usufruct/usufructlaw14.TypesNumbers", spec := "typesNumbers", inPlace := ["internal/bytealg.IndexByteString", "internal/bytealg.IndexString", "internal/reflectlite.ValueOf", "(internal/reflectlite.Value).Type", "(internal/reflectlite.Value).IsNil", "internal/reflectlite.TypeOf", "(internal/reflectlite.Value).Elem", "(internal/reflectlite.Value).Set"], unfollowed := true, recurses := true, named := ["internal/bytealg.MaxLen", "errors.errorType"], loops := true, apart := false, laid := [("errors.errorType", laid_errors_errorType)] }
def TypesNumbersSaid : Prop := typesNumbersRow.holds Tryz.pinned (OpenSpec.ofChange typesNumbersSpec)

/-- ITS FALSE NEIGHBOUR: 'it returns false'. Refute it at one input. -/
def typesNumbersWrong : ChangeSpec := { name := "typesNumbers", fn := fun _ => fun
  | [d1, d2, d3] => { results := [.lit (.bool false)], args := [d1, d2, d3] }
  | _ => none }
def TypesNumbersWrongFalsely : Prop := typesNumbersRow.holds Tryz.pinned (OpenSpec.ofChange typesNumbersWrong)

/-- 'usufructlaw15.CheckKnown': WHATEVER THE INPUT: true; the input reads as it did. -/
def checkKnownSpec : ChangeSpec := { name := "checkKnown", fn := fun _ => fun
  | [d] => { results := [.lit (.bool true)], args := [d] }
  | _ => none }
def checkKnownRow : OpenClaim := { program := "ytgpeaibhhonikaagreatdoor", sum := "7e4f1ad98c45f76223d41466edce2f44171501b4cc6d856c677a1395b520cf0c", func := "usufruct/usufructlaw15.CheckKnown", spec := "checkKnown", inPlace := ["internal/bytealg.IndexByteString", "internal/bytealg.IndexString", "internal/reflectlite.ValueOf", "(internal/reflectlite.Value).Type", "(internal/reflectlite.Value).IsNil", "internal/reflectlite.TypeOf", "(internal/reflectlite.Value).Elem", "(internal/reflectlite.Value).Set"], unfollowed := true, recurses := true, named := ["internal/bytealg.MaxLen", "errors.errorType"], apart := false, laid := [("errors.errorType", laid_errors_errorType)] }
def CheckKnownSaid : Prop := checkKnownRow.holds Tryz.pinned (OpenSpec.ofChange checkKnownSpec)

/-- ITS FALSE NEIGHBOUR: 'it returns false'. Refute it at one input. -/
def checkKnownWrong : ChangeSpec := { name := "checkKnown", fn := fun _ => fun
  | [d] => { results := [.lit (.bool false)], args := [d] }
  | _ => none }
def CheckKnownWrongFalsely : Prop := checkKnownRow.holds Tryz.pinned (OpenSpec.ofChange checkKnownWrong)

/- THE SECOND FORM. 'bulk': how many values and letters a reading holds, each counted each time it is reached (what is shared counts as often as it is met; a slice's spare places count too). A statement '..UptoSaid' is the law's where the arguments, and the package variables that the reading takes, are together of bulk at most 1048576: NARROWER than '..Said'. Prove '..Said' where nothing that the law and all that it calls make is longer than what came in: it says more and counts as full. Else prove '..UptoSaid'. A law counts once. -/
mutual
def uptoBulk {H : Type} : DataW H → Nat
  | .lit (.string bytes) => bytes.length + 1
  | .lit _ => 1
  | .nil => 1
  | .ptr d => uptoBulk d + 1
  | .slice elems spare => uptoBulkAll elems + uptoBulkAll spare + 1
  | .agg parts => uptoBulkAll parts + 1
  | .iface _ d => uptoBulk d + 1
  | .map entries => uptoBulkEntries entries + 1
  | .held _ => 1
def uptoBulkAll {H : Type} : List (DataW H) → Nat
  | [] => 0
  | d :: r => uptoBulk d + uptoBulkAll r
def uptoBulkEntries {H : Type} : List (Lit × DataW H) → Nat
  | [] => 0
  | x :: r => uptoBulkEntry x + uptoBulkEntries r
def uptoBulkEntry {H : Type} : Lit × DataW H → Nat
  | (.string bytes, d) => bytes.length + uptoBulk d + 1
  | (_, d) => uptoBulk d + 1
 end
def uptoSmall : (H : Type) → List (DataW H) → Bool := fun _ ds => decide (uptoBulkAll ds ≤ 1048576)
def OpenSpec.upto (s : _root_.Go.ChangeSpec) : _root_.Go.OpenSpec := { _root_.Go.OpenSpec.ofChange s with cond := some uptoSmall }

/-- 'usufructlaw13.ScopeOver', WHERE WHAT IT READS IS OF BULK AT MOST 1048576: true; the input reads as it did. -/
def scopeOverUptoRow : OpenClaim := { program := "ytgpeaibhhonikaagreatdoor", sum := "7e4f1ad98c45f76223d41466edce2f44171501b4cc6d856c677a1395b520cf0c", func := "usufruct/usufructlaw13.ScopeOver", spec := "scopeOver", inPlace := ["internal/bytealg.IndexByteString", "internal/bytealg.IndexString", "internal/reflectlite.ValueOf", "(internal/reflectlite.Value).Type", "(internal/reflectlite.Value).IsNil", "internal/reflectlite.TypeOf", "(internal/reflectlite.Value).Elem", "(internal/reflectlite.Value).Set"], unfollowed := true, recurses := true, named := ["internal/bytealg.MaxLen", "errors.errorType"], loops := true, apart := false, laid := [("errors.errorType", laid_errors_errorType)], narrowed := true }
def ScopeOverUptoSaid : Prop := scopeOverUptoRow.holds Tryz.pinned (OpenSpec.upto scopeOverSpec)

/-- 'usufructlaw14.TypesWell', WHERE WHAT IT READS IS OF BULK AT MOST 1048576: true; the input reads as it did. -/
def typesWellUptoRow : OpenClaim := { program := "ytgpeaibhhonikaagreatdoor", sum := "7e4f1ad98c45f76223d41466edce2f44171501b4cc6d856c677a1395b520cf0c", func := "usufruct/usufructlaw14.TypesWell", spec := "typesWell", inPlace := ["internal/bytealg.IndexByteString", "internal/bytealg.IndexString", "internal/reflectlite.ValueOf", "(internal/reflectlite.Value).Type", "(internal/reflectlite.Value).IsNil", "internal/reflectlite.TypeOf", "(internal/reflectlite.Value).Elem", "(internal/reflectlite.Value).Set"], unfollowed := true, recurses := true, named := ["internal/bytealg.MaxLen", "errors.errorType"], loops := true, apart := false, laid := [("errors.errorType", laid_errors_errorType)], narrowed := true }
def TypesWellUptoSaid : Prop := typesWellUptoRow.holds Tryz.pinned (OpenSpec.upto typesWellSpec)

/-- 'usufructlaw14.TypesLift', WHERE WHAT IT READS IS OF BULK AT MOST 1048576: true; the input reads as it did. -/
def typesLiftUptoRow : OpenClaim := { program := "ytgpeaibhhonikaagreatdoor", sum := "7e4f1ad98c45f76223d41466edce2f44171501b4cc6d856c677a1395b520cf0c", func := "usufruct/usufructlaw14.TypesLift", spec := "typesLift", inPlace := ["internal/bytealg.IndexByteString", "internal/bytealg.IndexString", "internal/reflectlite.ValueOf", "(internal/reflectlite.Value).Type", "(internal/reflectlite.Value).IsNil", "internal/reflectlite.TypeOf", "(internal/reflectlite.Value).Elem", "(internal/reflectlite.Value).Set"], unfollowed := true, recurses := true, named := ["internal/bytealg.MaxLen", "errors.errorType"], loops := true, apart := false, laid := [("errors.errorType", laid_errors_errorType)], narrowed := true }
def TypesLiftUptoSaid : Prop := typesLiftUptoRow.holds Tryz.pinned (OpenSpec.upto typesLiftSpec)

/-- 'usufructlaw14.TypesAsk', WHERE WHAT IT READS IS OF BULK AT MOST 1048576: true; the input reads as it did. -/
def typesAskUptoRow : OpenClaim := { program := "ytgpeaibhhonikaagreatdoor", sum := "7e4f1ad98c45f76223d41466edce2f44171501b4cc6d856c677a1395b520cf0c", func := "usufruct/usufructlaw14.TypesAsk", spec := "typesAsk", inPlace := ["internal/bytealg.IndexByteString", "internal/bytealg.IndexString", "internal/reflectlite.ValueOf", "(internal/reflectlite.Value).Type", "(internal/reflectlite.Value).IsNil", "internal/reflectlite.TypeOf", "(internal/reflectlite.Value).Elem", "(internal/reflectlite.Value).Set"], unfollowed := true, recurses := true, named := ["internal/bytealg.MaxLen", "errors.errorType"], loops := true, apart := false, laid := [("errors.errorType", laid_errors_errorType)], narrowed := true }
def TypesAskUptoSaid : Prop := typesAskUptoRow.holds Tryz.pinned (OpenSpec.upto typesAskSpec)

/-- 'usufructlaw14.TypesSub', WHERE WHAT IT READS IS OF BULK AT MOST 1048576: true; the input reads as it did. -/
def typesSubUptoRow : OpenClaim := { program := "ytgpeaibhhonikaagreatdoor", sum := "7e4f1ad98c45f76223d41466edce2f44171501b4cc6d856c677a1395b520cf0c", func := "usufruct/usufructlaw14.TypesSub", spec := "typesSub", inPlace := ["internal/bytealg.IndexByteString", "internal/bytealg.IndexString", "internal/reflectlite.ValueOf", "(internal/reflectlite.Value).Type", "(internal/reflectlite.Value).IsNil", "internal/reflectlite.TypeOf", "(internal/reflectlite.Value).Elem", "(internal/reflectlite.Value).Set"], unfollowed := true, recurses := true, named := ["internal/bytealg.MaxLen", "errors.errorType"], loops := true, apart := false, laid := [("errors.errorType", laid_errors_errorType)], narrowed := true }
def TypesSubUptoSaid : Prop := typesSubUptoRow.holds Tryz.pinned (OpenSpec.upto typesSubSpec)

/-- 'usufructlaw14.TypesOrder', WHERE WHAT IT READS IS OF BULK AT MOST 1048576: true; the input reads as it did. -/
def typesOrderUptoRow : OpenClaim := { program := "ytgpeaibhhonikaagreatdoor", sum := "7e4f1ad98c45f76223d41466edce2f44171501b4cc6d856c677a1395b520cf0c", func := "usufruct/usufructlaw14.TypesOrder", spec := "typesOrder", inPlace := ["internal/bytealg.IndexByteString", "internal/bytealg.IndexString", "internal/reflectlite.ValueOf", "(internal/reflectlite.Value).Type", "(internal/reflectlite.Value).IsNil", "internal/reflectlite.TypeOf", "(internal/reflectlite.Value).Elem", "(internal/reflectlite.Value).Set"], unfollowed := true, recurses := true, named := ["internal/bytealg.MaxLen", "errors.errorType"], loops := true, apart := false, laid := [("errors.errorType", laid_errors_errorType)], narrowed := true }
def TypesOrderUptoSaid : Prop := typesOrderUptoRow.holds Tryz.pinned (OpenSpec.upto typesOrderSpec)

/-- 'usufructlaw14.TypesPath', WHERE WHAT IT READS IS OF BULK AT MOST 1048576: true; the input reads as it did. -/
def typesPathUptoRow : OpenClaim := { program := "ytgpeaibhhonikaagreatdoor", sum := "7e4f1ad98c45f76223d41466edce2f44171501b4cc6d856c677a1395b520cf0c", func := "usufruct/usufructlaw14.TypesPath", spec := "typesPath", inPlace := ["internal/bytealg.IndexByteString", "internal/bytealg.IndexString", "internal/reflectlite.ValueOf", "(internal/reflectlite.Value).Type", "(internal/reflectlite.Value).IsNil", "internal/reflectlite.TypeOf", "(internal/reflectlite.Value).Elem", "(internal/reflectlite.Value).Set"], unfollowed := true, recurses := true, named := ["internal/bytealg.MaxLen", "errors.errorType"], loops := true, apart := false, laid := [("errors.errorType", laid_errors_errorType)], narrowed := true }
def TypesPathUptoSaid : Prop := typesPathUptoRow.holds Tryz.pinned (OpenSpec.upto typesPathSpec)

/-- 'usufructlaw14.TypesNumbers', WHERE WHAT IT READS IS OF BULK AT MOST 1048576: true; the input reads as it did. -/
def typesNumbersUptoRow : OpenClaim := { program := "ytgpeaibhhonikaagreatdoor", sum := "7e4f1ad98c45f76223d41466edce2f44171501b4cc6d856c677a1395b520cf0c", func := "usufruct/usufructlaw14.TypesNumbers", spec := "typesNumbers", inPlace := ["internal/bytealg.IndexByteString", "internal/bytealg.IndexString", "internal/reflectlite.ValueOf", "(internal/reflectlite.Value).Type", "(internal/reflectlite.Value).IsNil", "internal/reflectlite.TypeOf", "(internal/reflectlite.Value).Elem", "(internal/reflectlite.Value).Set"], unfollowed := true, recurses := true, named := ["internal/bytealg.MaxLen", "errors.errorType"], loops := true, apart := false, laid := [("errors.errorType", laid_errors_errorType)], narrowed := true }
def TypesNumbersUptoSaid : Prop := typesNumbersUptoRow.holds Tryz.pinned (OpenSpec.upto typesNumbersSpec)

/-- 'usufructlaw15.CheckKnown', WHERE WHAT IT READS IS OF BULK AT MOST 1048576: true; the input reads as it did. -/
def checkKnownUptoRow : OpenClaim := { program := "ytgpeaibhhonikaagreatdoor", sum := "7e4f1ad98c45f76223d41466edce2f44171501b4cc6d856c677a1395b520cf0c", func := "usufruct/usufructlaw15.CheckKnown", spec := "checkKnown", inPlace := ["internal/bytealg.IndexByteString", "internal/bytealg.IndexString", "internal/reflectlite.ValueOf", "(internal/reflectlite.Value).Type", "(internal/reflectlite.Value).IsNil", "internal/reflectlite.TypeOf", "(internal/reflectlite.Value).Elem", "(internal/reflectlite.Value).Set"], unfollowed := true, recurses := true, named := ["internal/bytealg.MaxLen", "errors.errorType"], apart := false, laid := [("errors.errorType", laid_errors_errorType)], narrowed := true }
def CheckKnownUptoSaid : Prop := checkKnownUptoRow.holds Tryz.pinned (OpenSpec.upto checkKnownSpec)

end Rows
end Go.Proofs.YtgpeaibhhonikaaGreatDoor
