/-
  DERIVED. GIVEN WITH THE SEED: THE CARDS: each row of YtalihpfjkfeibaaGreatDoorRows.lean that lists a variable, with what it lists TIED to the program's text (the seventh form; the later family's looks); each row that meets fmt, with fmt's text TOLD by the authors' own Lean function (tested against real Go, not proved from fmt's source: count such statements apart). THE CARD IS WHAT COUNTS. Prove the row's statement (the work); the ties are given (YtalihpfjkfeibaaGreatDoorTie.lean); close each card by the builder's one call (the guide's Derived/Test/ToyasCard.lean, 'card_holds'). Laid BY PROGRAM, IN A SANDBOX (cutbox-door.mjs). By AI agents, Wed Nov 11 2026. No macro, syntax, notation, axiom, sorry.
-/
import Derived.Test.YtalihpfjkfeibaaGreatDoorRows
import GoSem.ClaimSeven
namespace Go.Proofs.YtalihpfjkfeibaaGreatDoor
namespace Rows

/-- THE TIED CARD OF 'usufructlaw13.ScopeKnown'. -/
def scopeKnownCard : Claim7 := { stood := { row := scopeKnownRow, standIns := [], harness := (true, "ed21873038b60f7cfb23ac217cfd5dfccddaba24b0d4402193dd1af47301fa92"), looks := true }, kinds := [], alts := [], laidByText := true, laidKinds := [.handle], laidTests := true, laidLooks := .later }
def ScopeKnownCardSaid : Prop := Claim7.holds Tryz.pinned (.plain (OpenSpec.ofChange scopeKnownSpec)) scopeKnownCard

/-- THE TIED CARD OF 'usufructlaw13.ScopeNews'. -/
def scopeNewsCard : Claim7 := { stood := { row := scopeNewsRow, standIns := [], harness := (true, "ed21873038b60f7cfb23ac217cfd5dfccddaba24b0d4402193dd1af47301fa92"), looks := true }, kinds := [], alts := [], laidByText := true, laidKinds := [.handle], laidTests := true, laidLooks := .later }
def ScopeNewsCardSaid : Prop := Claim7.holds Tryz.pinned (.plain (OpenSpec.ofChange scopeNewsSpec)) scopeNewsCard

/-- THE TIED CARD OF 'usufructlaw13.ScopeOver'. -/
def scopeOverCard : Claim7 := { stood := { row := scopeOverRow, standIns := [], harness := (true, "ed21873038b60f7cfb23ac217cfd5dfccddaba24b0d4402193dd1af47301fa92"), looks := true }, kinds := [], alts := [], laidByText := true, laidKinds := [.handle], laidTests := true, laidLooks := .later }
def ScopeOverCardSaid : Prop := Claim7.holds Tryz.pinned (.plain (OpenSpec.ofChange scopeOverSpec)) scopeOverCard

/-- THE TIED CARD OF 'usufructlaw13.ScopeShows'. -/
def scopeShowsCard : Claim7 := { stood := { row := scopeShowsRow, standIns := [], harness := (true, "ed21873038b60f7cfb23ac217cfd5dfccddaba24b0d4402193dd1af47301fa92"), looks := true }, kinds := [], alts := [], laidByText := true, laidKinds := [.handle], laidTests := true, laidLooks := .later }
def ScopeShowsCardSaid : Prop := Claim7.holds Tryz.pinned (.plain (OpenSpec.ofChange scopeShowsSpec)) scopeShowsCard

/-- THE TIED CARD OF 'usufructlaw13.ScopeFront'. -/
def scopeFrontCard : Claim7 := { stood := { row := scopeFrontRow, standIns := [], harness := (true, "ed21873038b60f7cfb23ac217cfd5dfccddaba24b0d4402193dd1af47301fa92"), looks := true }, kinds := [], alts := [], laidByText := true, laidKinds := [.handle], laidTests := true, laidLooks := .later }
def ScopeFrontCardSaid : Prop := Claim7.holds Tryz.pinned (.plain (OpenSpec.ofChange scopeFrontSpec)) scopeFrontCard

/-- THE TIED CARD OF 'usufructlaw13.ScopePrivate'. -/
def scopePrivateCard : Claim7 := { stood := { row := scopePrivateRow, standIns := [], harness := (true, "ed21873038b60f7cfb23ac217cfd5dfccddaba24b0d4402193dd1af47301fa92"), looks := true }, kinds := [], alts := [], laidByText := true, laidKinds := [.handle], laidTests := true, laidLooks := .later }
def ScopePrivateCardSaid : Prop := Claim7.holds Tryz.pinned (.plain (OpenSpec.ofChange scopePrivateSpec)) scopePrivateCard

/-- THE TIED CARD OF 'usufructlaw14.TypesWell'. -/
def typesWellCard : Claim7 := { stood := { row := typesWellRow, standIns := [], harness := (true, "ed21873038b60f7cfb23ac217cfd5dfccddaba24b0d4402193dd1af47301fa92"), looks := true }, kinds := [], alts := [], laidByText := true, laidKinds := [.handle], laidTests := true, laidLooks := .later }
def TypesWellCardSaid : Prop := Claim7.holds Tryz.pinned (.plain (OpenSpec.ofChange typesWellSpec)) typesWellCard

/-- THE TIED CARD OF 'usufructlaw14.TypesLift'. -/
def typesLiftCard : Claim7 := { stood := { row := typesLiftRow, standIns := [], harness := (true, "ed21873038b60f7cfb23ac217cfd5dfccddaba24b0d4402193dd1af47301fa92"), looks := true }, kinds := [], alts := [], laidByText := true, laidKinds := [.handle], laidTests := true, laidLooks := .later }
def TypesLiftCardSaid : Prop := Claim7.holds Tryz.pinned (.plain (OpenSpec.ofChange typesLiftSpec)) typesLiftCard

/-- THE TIED CARD OF 'usufructlaw14.TypesAsk'. -/
def typesAskCard : Claim7 := { stood := { row := typesAskRow, standIns := [], harness := (true, "ed21873038b60f7cfb23ac217cfd5dfccddaba24b0d4402193dd1af47301fa92"), looks := true }, kinds := [], alts := [], laidByText := true, laidKinds := [.handle], laidTests := true, laidLooks := .later }
def TypesAskCardSaid : Prop := Claim7.holds Tryz.pinned (.plain (OpenSpec.ofChange typesAskSpec)) typesAskCard

/-- THE TIED CARD OF 'usufructlaw14.TypesSub'. -/
def typesSubCard : Claim7 := { stood := { row := typesSubRow, standIns := [], harness := (true, "ed21873038b60f7cfb23ac217cfd5dfccddaba24b0d4402193dd1af47301fa92"), looks := true }, kinds := [], alts := [], laidByText := true, laidKinds := [.handle], laidTests := true, laidLooks := .later }
def TypesSubCardSaid : Prop := Claim7.holds Tryz.pinned (.plain (OpenSpec.ofChange typesSubSpec)) typesSubCard

/-- THE TIED CARD OF 'usufructlaw14.TypesOrder'. -/
def typesOrderCard : Claim7 := { stood := { row := typesOrderRow, standIns := [], harness := (true, "ed21873038b60f7cfb23ac217cfd5dfccddaba24b0d4402193dd1af47301fa92"), looks := true }, kinds := [], alts := [], laidByText := true, laidKinds := [.handle], laidTests := true, laidLooks := .later }
def TypesOrderCardSaid : Prop := Claim7.holds Tryz.pinned (.plain (OpenSpec.ofChange typesOrderSpec)) typesOrderCard

/-- THE TIED CARD OF 'usufructlaw14.TypesPath'. -/
def typesPathCard : Claim7 := { stood := { row := typesPathRow, standIns := [], harness := (true, "ed21873038b60f7cfb23ac217cfd5dfccddaba24b0d4402193dd1af47301fa92"), looks := true }, kinds := [], alts := [], laidByText := true, laidKinds := [.handle], laidTests := true, laidLooks := .later }
def TypesPathCardSaid : Prop := Claim7.holds Tryz.pinned (.plain (OpenSpec.ofChange typesPathSpec)) typesPathCard

/-- THE TIED CARD OF 'usufructlaw14.TypesNumbers'. -/
def typesNumbersCard : Claim7 := { stood := { row := typesNumbersRow, standIns := [], harness := (true, "ed21873038b60f7cfb23ac217cfd5dfccddaba24b0d4402193dd1af47301fa92"), looks := true }, kinds := [], alts := [], laidByText := true, laidKinds := [.handle], laidTests := true, laidLooks := .later }
def TypesNumbersCardSaid : Prop := Claim7.holds Tryz.pinned (.plain (OpenSpec.ofChange typesNumbersSpec)) typesNumbersCard

/-- THE SECOND FORM's CARD OF 'usufructlaw13.ScopeKnown'. -/
def scopeKnownUptoCard : Claim7 := { stood := { row := scopeKnownUptoRow, standIns := [], harness := (true, "ed21873038b60f7cfb23ac217cfd5dfccddaba24b0d4402193dd1af47301fa92"), looks := true }, kinds := [], alts := [], laidByText := true, laidKinds := [.handle], laidTests := true, laidLooks := .later }
def ScopeKnownUptoCardSaid : Prop := Claim7.holds Tryz.pinned (.plain (OpenSpec.upto scopeKnownSpec)) scopeKnownUptoCard

/-- THE SECOND FORM's CARD OF 'usufructlaw13.ScopeNews'. -/
def scopeNewsUptoCard : Claim7 := { stood := { row := scopeNewsUptoRow, standIns := [], harness := (true, "ed21873038b60f7cfb23ac217cfd5dfccddaba24b0d4402193dd1af47301fa92"), looks := true }, kinds := [], alts := [], laidByText := true, laidKinds := [.handle], laidTests := true, laidLooks := .later }
def ScopeNewsUptoCardSaid : Prop := Claim7.holds Tryz.pinned (.plain (OpenSpec.upto scopeNewsSpec)) scopeNewsUptoCard

/-- THE SECOND FORM's CARD OF 'usufructlaw13.ScopeOver'. -/
def scopeOverUptoCard : Claim7 := { stood := { row := scopeOverUptoRow, standIns := [], harness := (true, "ed21873038b60f7cfb23ac217cfd5dfccddaba24b0d4402193dd1af47301fa92"), looks := true }, kinds := [], alts := [], laidByText := true, laidKinds := [.handle], laidTests := true, laidLooks := .later }
def ScopeOverUptoCardSaid : Prop := Claim7.holds Tryz.pinned (.plain (OpenSpec.upto scopeOverSpec)) scopeOverUptoCard

/-- THE SECOND FORM's CARD OF 'usufructlaw13.ScopeShows'. -/
def scopeShowsUptoCard : Claim7 := { stood := { row := scopeShowsUptoRow, standIns := [], harness := (true, "ed21873038b60f7cfb23ac217cfd5dfccddaba24b0d4402193dd1af47301fa92"), looks := true }, kinds := [], alts := [], laidByText := true, laidKinds := [.handle], laidTests := true, laidLooks := .later }
def ScopeShowsUptoCardSaid : Prop := Claim7.holds Tryz.pinned (.plain (OpenSpec.upto scopeShowsSpec)) scopeShowsUptoCard

/-- THE SECOND FORM's CARD OF 'usufructlaw13.ScopeFront'. -/
def scopeFrontUptoCard : Claim7 := { stood := { row := scopeFrontUptoRow, standIns := [], harness := (true, "ed21873038b60f7cfb23ac217cfd5dfccddaba24b0d4402193dd1af47301fa92"), looks := true }, kinds := [], alts := [], laidByText := true, laidKinds := [.handle], laidTests := true, laidLooks := .later }
def ScopeFrontUptoCardSaid : Prop := Claim7.holds Tryz.pinned (.plain (OpenSpec.upto scopeFrontSpec)) scopeFrontUptoCard

/-- THE SECOND FORM's CARD OF 'usufructlaw13.ScopePrivate'. -/
def scopePrivateUptoCard : Claim7 := { stood := { row := scopePrivateUptoRow, standIns := [], harness := (true, "ed21873038b60f7cfb23ac217cfd5dfccddaba24b0d4402193dd1af47301fa92"), looks := true }, kinds := [], alts := [], laidByText := true, laidKinds := [.handle], laidTests := true, laidLooks := .later }
def ScopePrivateUptoCardSaid : Prop := Claim7.holds Tryz.pinned (.plain (OpenSpec.upto scopePrivateSpec)) scopePrivateUptoCard

/-- THE SECOND FORM's CARD OF 'usufructlaw14.TypesWell'. -/
def typesWellUptoCard : Claim7 := { stood := { row := typesWellUptoRow, standIns := [], harness := (true, "ed21873038b60f7cfb23ac217cfd5dfccddaba24b0d4402193dd1af47301fa92"), looks := true }, kinds := [], alts := [], laidByText := true, laidKinds := [.handle], laidTests := true, laidLooks := .later }
def TypesWellUptoCardSaid : Prop := Claim7.holds Tryz.pinned (.plain (OpenSpec.upto typesWellSpec)) typesWellUptoCard

/-- THE SECOND FORM's CARD OF 'usufructlaw14.TypesLift'. -/
def typesLiftUptoCard : Claim7 := { stood := { row := typesLiftUptoRow, standIns := [], harness := (true, "ed21873038b60f7cfb23ac217cfd5dfccddaba24b0d4402193dd1af47301fa92"), looks := true }, kinds := [], alts := [], laidByText := true, laidKinds := [.handle], laidTests := true, laidLooks := .later }
def TypesLiftUptoCardSaid : Prop := Claim7.holds Tryz.pinned (.plain (OpenSpec.upto typesLiftSpec)) typesLiftUptoCard

/-- THE SECOND FORM's CARD OF 'usufructlaw14.TypesAsk'. -/
def typesAskUptoCard : Claim7 := { stood := { row := typesAskUptoRow, standIns := [], harness := (true, "ed21873038b60f7cfb23ac217cfd5dfccddaba24b0d4402193dd1af47301fa92"), looks := true }, kinds := [], alts := [], laidByText := true, laidKinds := [.handle], laidTests := true, laidLooks := .later }
def TypesAskUptoCardSaid : Prop := Claim7.holds Tryz.pinned (.plain (OpenSpec.upto typesAskSpec)) typesAskUptoCard

/-- THE SECOND FORM's CARD OF 'usufructlaw14.TypesSub'. -/
def typesSubUptoCard : Claim7 := { stood := { row := typesSubUptoRow, standIns := [], harness := (true, "ed21873038b60f7cfb23ac217cfd5dfccddaba24b0d4402193dd1af47301fa92"), looks := true }, kinds := [], alts := [], laidByText := true, laidKinds := [.handle], laidTests := true, laidLooks := .later }
def TypesSubUptoCardSaid : Prop := Claim7.holds Tryz.pinned (.plain (OpenSpec.upto typesSubSpec)) typesSubUptoCard

/-- THE SECOND FORM's CARD OF 'usufructlaw14.TypesOrder'. -/
def typesOrderUptoCard : Claim7 := { stood := { row := typesOrderUptoRow, standIns := [], harness := (true, "ed21873038b60f7cfb23ac217cfd5dfccddaba24b0d4402193dd1af47301fa92"), looks := true }, kinds := [], alts := [], laidByText := true, laidKinds := [.handle], laidTests := true, laidLooks := .later }
def TypesOrderUptoCardSaid : Prop := Claim7.holds Tryz.pinned (.plain (OpenSpec.upto typesOrderSpec)) typesOrderUptoCard

/-- THE SECOND FORM's CARD OF 'usufructlaw14.TypesPath'. -/
def typesPathUptoCard : Claim7 := { stood := { row := typesPathUptoRow, standIns := [], harness := (true, "ed21873038b60f7cfb23ac217cfd5dfccddaba24b0d4402193dd1af47301fa92"), looks := true }, kinds := [], alts := [], laidByText := true, laidKinds := [.handle], laidTests := true, laidLooks := .later }
def TypesPathUptoCardSaid : Prop := Claim7.holds Tryz.pinned (.plain (OpenSpec.upto typesPathSpec)) typesPathUptoCard

/-- THE SECOND FORM's CARD OF 'usufructlaw14.TypesNumbers'. -/
def typesNumbersUptoCard : Claim7 := { stood := { row := typesNumbersUptoRow, standIns := [], harness := (true, "ed21873038b60f7cfb23ac217cfd5dfccddaba24b0d4402193dd1af47301fa92"), looks := true }, kinds := [], alts := [], laidByText := true, laidKinds := [.handle], laidTests := true, laidLooks := .later }
def TypesNumbersUptoCardSaid : Prop := Claim7.holds Tryz.pinned (.plain (OpenSpec.upto typesNumbersSpec)) typesNumbersUptoCard
end Rows
end Go.Proofs.YtalihpfjkfeibaaGreatDoor
