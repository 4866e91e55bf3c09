/-
  DERIVED. GIVEN WITH THE SEED: THE CARDS: each row of YtgpeaibhhonikaaGreatDoorRows.lean that lists a variable, with what it lists TIED to the program's text (the seventh form; the later family's looks); each row that meets fmt, with fmt's text TOLD by the authors' own Lean function (tested against real Go, not proved from fmt's source: count such statements apart). THE CARD IS WHAT COUNTS. Prove the row's statement (the work); the ties are given (YtgpeaibhhonikaaGreatDoorTie.lean); close each card by the builder's one call (the guide's Derived/Test/ToyasCard.lean, 'card_holds'). Laid BY PROGRAM, IN A SANDBOX (cutbox-door.mjs). By AI agents, Wed Nov 11 2026. No macro, syntax, notation, axiom, sorry.
-/
import Derived.Test.YtgpeaibhhonikaaGreatDoorRows
import GoSem.ClaimSeven
namespace Go.Proofs.YtgpeaibhhonikaaGreatDoor
namespace Rows

/-- THE TIED CARD OF 'usufructlaw13.ScopeOver'. -/
def scopeOverCard : Claim7 := { stood := { row := scopeOverRow, standIns := [], harness := (true, "b0d1241fef24df4bd052b38c9cc7f1e356aa857d237375417cf8ad474402db62"), looks := true }, kinds := [], alts := [], laidByText := true, laidKinds := [.handle], laidTests := true, laidLooks := .later }
def ScopeOverCardSaid : Prop := Claim7.holds Tryz.pinned (.plain (OpenSpec.ofChange scopeOverSpec)) scopeOverCard

/-- THE TIED CARD OF 'usufructlaw14.TypesWell'. -/
def typesWellCard : Claim7 := { stood := { row := typesWellRow, standIns := [], harness := (true, "b0d1241fef24df4bd052b38c9cc7f1e356aa857d237375417cf8ad474402db62"), looks := true }, kinds := [], alts := [], laidByText := true, laidKinds := [.handle], laidTests := true, laidLooks := .later }
def TypesWellCardSaid : Prop := Claim7.holds Tryz.pinned (.plain (OpenSpec.ofChange typesWellSpec)) typesWellCard

/-- THE TIED CARD OF 'usufructlaw14.TypesLift'. -/
def typesLiftCard : Claim7 := { stood := { row := typesLiftRow, standIns := [], harness := (true, "b0d1241fef24df4bd052b38c9cc7f1e356aa857d237375417cf8ad474402db62"), looks := true }, kinds := [], alts := [], laidByText := true, laidKinds := [.handle], laidTests := true, laidLooks := .later }
def TypesLiftCardSaid : Prop := Claim7.holds Tryz.pinned (.plain (OpenSpec.ofChange typesLiftSpec)) typesLiftCard

/-- THE TIED CARD OF 'usufructlaw14.TypesAsk'. -/
def typesAskCard : Claim7 := { stood := { row := typesAskRow, standIns := [], harness := (true, "b0d1241fef24df4bd052b38c9cc7f1e356aa857d237375417cf8ad474402db62"), looks := true }, kinds := [], alts := [], laidByText := true, laidKinds := [.handle], laidTests := true, laidLooks := .later }
def TypesAskCardSaid : Prop := Claim7.holds Tryz.pinned (.plain (OpenSpec.ofChange typesAskSpec)) typesAskCard

/-- THE TIED CARD OF 'usufructlaw14.TypesSub'. -/
def typesSubCard : Claim7 := { stood := { row := typesSubRow, standIns := [], harness := (true, "b0d1241fef24df4bd052b38c9cc7f1e356aa857d237375417cf8ad474402db62"), looks := true }, kinds := [], alts := [], laidByText := true, laidKinds := [.handle], laidTests := true, laidLooks := .later }
def TypesSubCardSaid : Prop := Claim7.holds Tryz.pinned (.plain (OpenSpec.ofChange typesSubSpec)) typesSubCard

/-- THE TIED CARD OF 'usufructlaw14.TypesOrder'. -/
def typesOrderCard : Claim7 := { stood := { row := typesOrderRow, standIns := [], harness := (true, "b0d1241fef24df4bd052b38c9cc7f1e356aa857d237375417cf8ad474402db62"), looks := true }, kinds := [], alts := [], laidByText := true, laidKinds := [.handle], laidTests := true, laidLooks := .later }
def TypesOrderCardSaid : Prop := Claim7.holds Tryz.pinned (.plain (OpenSpec.ofChange typesOrderSpec)) typesOrderCard

/-- THE TIED CARD OF 'usufructlaw14.TypesPath'. -/
def typesPathCard : Claim7 := { stood := { row := typesPathRow, standIns := [], harness := (true, "b0d1241fef24df4bd052b38c9cc7f1e356aa857d237375417cf8ad474402db62"), looks := true }, kinds := [], alts := [], laidByText := true, laidKinds := [.handle], laidTests := true, laidLooks := .later }
def TypesPathCardSaid : Prop := Claim7.holds Tryz.pinned (.plain (OpenSpec.ofChange typesPathSpec)) typesPathCard

/-- THE TIED CARD OF 'usufructlaw14.TypesNumbers'. -/
def typesNumbersCard : Claim7 := { stood := { row := typesNumbersRow, standIns := [], harness := (true, "b0d1241fef24df4bd052b38c9cc7f1e356aa857d237375417cf8ad474402db62"), looks := true }, kinds := [], alts := [], laidByText := true, laidKinds := [.handle], laidTests := true, laidLooks := .later }
def TypesNumbersCardSaid : Prop := Claim7.holds Tryz.pinned (.plain (OpenSpec.ofChange typesNumbersSpec)) typesNumbersCard

/-- THE TIED CARD OF 'usufructlaw15.CheckKnown'. -/
def checkKnownCard : Claim7 := { stood := { row := checkKnownRow, standIns := [], harness := (true, "b0d1241fef24df4bd052b38c9cc7f1e356aa857d237375417cf8ad474402db62"), looks := true }, kinds := [], alts := [], laidByText := true, laidKinds := [.handle], laidTests := true, laidLooks := .later }
def CheckKnownCardSaid : Prop := Claim7.holds Tryz.pinned (.plain (OpenSpec.ofChange checkKnownSpec)) checkKnownCard

/-- THE SECOND FORM's CARD OF 'usufructlaw13.ScopeOver'. -/
def scopeOverUptoCard : Claim7 := { stood := { row := scopeOverUptoRow, standIns := [], harness := (true, "b0d1241fef24df4bd052b38c9cc7f1e356aa857d237375417cf8ad474402db62"), looks := true }, kinds := [], alts := [], laidByText := true, laidKinds := [.handle], laidTests := true, laidLooks := .later }
def ScopeOverUptoCardSaid : Prop := Claim7.holds Tryz.pinned (.plain (OpenSpec.upto scopeOverSpec)) scopeOverUptoCard

/-- THE SECOND FORM's CARD OF 'usufructlaw14.TypesWell'. -/
def typesWellUptoCard : Claim7 := { stood := { row := typesWellUptoRow, standIns := [], harness := (true, "b0d1241fef24df4bd052b38c9cc7f1e356aa857d237375417cf8ad474402db62"), looks := true }, kinds := [], alts := [], laidByText := true, laidKinds := [.handle], laidTests := true, laidLooks := .later }
def TypesWellUptoCardSaid : Prop := Claim7.holds Tryz.pinned (.plain (OpenSpec.upto typesWellSpec)) typesWellUptoCard

/-- THE SECOND FORM's CARD OF 'usufructlaw14.TypesLift'. -/
def typesLiftUptoCard : Claim7 := { stood := { row := typesLiftUptoRow, standIns := [], harness := (true, "b0d1241fef24df4bd052b38c9cc7f1e356aa857d237375417cf8ad474402db62"), looks := true }, kinds := [], alts := [], laidByText := true, laidKinds := [.handle], laidTests := true, laidLooks := .later }
def TypesLiftUptoCardSaid : Prop := Claim7.holds Tryz.pinned (.plain (OpenSpec.upto typesLiftSpec)) typesLiftUptoCard

/-- THE SECOND FORM's CARD OF 'usufructlaw14.TypesAsk'. -/
def typesAskUptoCard : Claim7 := { stood := { row := typesAskUptoRow, standIns := [], harness := (true, "b0d1241fef24df4bd052b38c9cc7f1e356aa857d237375417cf8ad474402db62"), looks := true }, kinds := [], alts := [], laidByText := true, laidKinds := [.handle], laidTests := true, laidLooks := .later }
def TypesAskUptoCardSaid : Prop := Claim7.holds Tryz.pinned (.plain (OpenSpec.upto typesAskSpec)) typesAskUptoCard

/-- THE SECOND FORM's CARD OF 'usufructlaw14.TypesSub'. -/
def typesSubUptoCard : Claim7 := { stood := { row := typesSubUptoRow, standIns := [], harness := (true, "b0d1241fef24df4bd052b38c9cc7f1e356aa857d237375417cf8ad474402db62"), looks := true }, kinds := [], alts := [], laidByText := true, laidKinds := [.handle], laidTests := true, laidLooks := .later }
def TypesSubUptoCardSaid : Prop := Claim7.holds Tryz.pinned (.plain (OpenSpec.upto typesSubSpec)) typesSubUptoCard

/-- THE SECOND FORM's CARD OF 'usufructlaw14.TypesOrder'. -/
def typesOrderUptoCard : Claim7 := { stood := { row := typesOrderUptoRow, standIns := [], harness := (true, "b0d1241fef24df4bd052b38c9cc7f1e356aa857d237375417cf8ad474402db62"), looks := true }, kinds := [], alts := [], laidByText := true, laidKinds := [.handle], laidTests := true, laidLooks := .later }
def TypesOrderUptoCardSaid : Prop := Claim7.holds Tryz.pinned (.plain (OpenSpec.upto typesOrderSpec)) typesOrderUptoCard

/-- THE SECOND FORM's CARD OF 'usufructlaw14.TypesPath'. -/
def typesPathUptoCard : Claim7 := { stood := { row := typesPathUptoRow, standIns := [], harness := (true, "b0d1241fef24df4bd052b38c9cc7f1e356aa857d237375417cf8ad474402db62"), looks := true }, kinds := [], alts := [], laidByText := true, laidKinds := [.handle], laidTests := true, laidLooks := .later }
def TypesPathUptoCardSaid : Prop := Claim7.holds Tryz.pinned (.plain (OpenSpec.upto typesPathSpec)) typesPathUptoCard

/-- THE SECOND FORM's CARD OF 'usufructlaw14.TypesNumbers'. -/
def typesNumbersUptoCard : Claim7 := { stood := { row := typesNumbersUptoRow, standIns := [], harness := (true, "b0d1241fef24df4bd052b38c9cc7f1e356aa857d237375417cf8ad474402db62"), looks := true }, kinds := [], alts := [], laidByText := true, laidKinds := [.handle], laidTests := true, laidLooks := .later }
def TypesNumbersUptoCardSaid : Prop := Claim7.holds Tryz.pinned (.plain (OpenSpec.upto typesNumbersSpec)) typesNumbersUptoCard

/-- THE SECOND FORM's CARD OF 'usufructlaw15.CheckKnown'. -/
def checkKnownUptoCard : Claim7 := { stood := { row := checkKnownUptoRow, standIns := [], harness := (true, "b0d1241fef24df4bd052b38c9cc7f1e356aa857d237375417cf8ad474402db62"), looks := true }, kinds := [], alts := [], laidByText := true, laidKinds := [.handle], laidTests := true, laidLooks := .later }
def CheckKnownUptoCardSaid : Prop := Claim7.holds Tryz.pinned (.plain (OpenSpec.upto checkKnownSpec)) checkKnownUptoCard
end Rows
end Go.Proofs.YtgpeaibhhonikaaGreatDoor
