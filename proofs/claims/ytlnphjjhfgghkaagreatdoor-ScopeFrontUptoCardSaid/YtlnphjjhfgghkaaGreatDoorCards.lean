/-
  DERIVED. GIVEN WITH THE SEED: THE CARDS: each row of YtlnphjjhfgghkaaGreatDoorRows.lean that lists a variable, with what it lists TIED to the program's text (the seventh form; the later family's looks); each row that meets fmt, with fmt's text TOLD by the authors' own Lean function (tested against real Go, not proved from fmt's source: count such statements apart). THE CARD IS WHAT COUNTS. Prove the row's statement (the work); the ties are given (YtlnphjjhfgghkaaGreatDoorTie.lean); close each card by the builder's one call (the guide's Derived/Test/ToyasCard.lean, 'card_holds'). Laid BY PROGRAM, IN A SANDBOX (cutbox-door.mjs). By AI agents, Wed Nov 11 2026. No macro, syntax, notation, axiom, sorry.
-/
import Derived.Test.YtlnphjjhfgghkaaGreatDoorRows
import GoSem.ClaimSeven
namespace Go.Proofs.YtlnphjjhfgghkaaGreatDoor
namespace Rows

/-- THE TIED CARD OF 'usufructlaw13.ScopeNews'. -/
def scopeNewsCard : Claim7 := { stood := { row := scopeNewsRow, standIns := [], harness := (true, "9057aab2ba222a5bcf4c88245c4ec298812a981d5a1633fc530dab7136ce4f58"), looks := true }, kinds := [], alts := [], laidByText := true, laidKinds := [.handle], laidTests := true, laidLooks := .later }
def ScopeNewsCardSaid : Prop := Claim7.holds Tryz.pinned (.plain (OpenSpec.ofChange scopeNewsSpec)) scopeNewsCard

/-- THE TIED CARD OF 'usufructlaw13.ScopeOver'. -/
def scopeOverCard : Claim7 := { stood := { row := scopeOverRow, standIns := [], harness := (true, "9057aab2ba222a5bcf4c88245c4ec298812a981d5a1633fc530dab7136ce4f58"), looks := true }, kinds := [], alts := [], laidByText := true, laidKinds := [.handle], laidTests := true, laidLooks := .later }
def ScopeOverCardSaid : Prop := Claim7.holds Tryz.pinned (.plain (OpenSpec.ofChange scopeOverSpec)) scopeOverCard

/-- THE TIED CARD OF 'usufructlaw13.ScopeShows'. -/
def scopeShowsCard : Claim7 := { stood := { row := scopeShowsRow, standIns := [], harness := (true, "9057aab2ba222a5bcf4c88245c4ec298812a981d5a1633fc530dab7136ce4f58"), looks := true }, kinds := [], alts := [], laidByText := true, laidKinds := [.handle], laidTests := true, laidLooks := .later }
def ScopeShowsCardSaid : Prop := Claim7.holds Tryz.pinned (.plain (OpenSpec.ofChange scopeShowsSpec)) scopeShowsCard

/-- THE TIED CARD OF 'usufructlaw13.ScopeFront'. -/
def scopeFrontCard : Claim7 := { stood := { row := scopeFrontRow, standIns := [], harness := (true, "9057aab2ba222a5bcf4c88245c4ec298812a981d5a1633fc530dab7136ce4f58"), looks := true }, kinds := [], alts := [], laidByText := true, laidKinds := [.handle], laidTests := true, laidLooks := .later }
def ScopeFrontCardSaid : Prop := Claim7.holds Tryz.pinned (.plain (OpenSpec.ofChange scopeFrontSpec)) scopeFrontCard

/-- THE TIED CARD OF 'usufructlaw13.ScopePrivate'. -/
def scopePrivateCard : Claim7 := { stood := { row := scopePrivateRow, standIns := [], harness := (true, "9057aab2ba222a5bcf4c88245c4ec298812a981d5a1633fc530dab7136ce4f58"), looks := true }, kinds := [], alts := [], laidByText := true, laidKinds := [.handle], laidTests := true, laidLooks := .later }
def ScopePrivateCardSaid : Prop := Claim7.holds Tryz.pinned (.plain (OpenSpec.ofChange scopePrivateSpec)) scopePrivateCard

/-- THE SECOND FORM's CARD OF 'usufructlaw13.ScopeNews'. -/
def scopeNewsUptoCard : Claim7 := { stood := { row := scopeNewsUptoRow, standIns := [], harness := (true, "9057aab2ba222a5bcf4c88245c4ec298812a981d5a1633fc530dab7136ce4f58"), looks := true }, kinds := [], alts := [], laidByText := true, laidKinds := [.handle], laidTests := true, laidLooks := .later }
def ScopeNewsUptoCardSaid : Prop := Claim7.holds Tryz.pinned (.plain (OpenSpec.upto scopeNewsSpec)) scopeNewsUptoCard

/-- THE SECOND FORM's CARD OF 'usufructlaw13.ScopeOver'. -/
def scopeOverUptoCard : Claim7 := { stood := { row := scopeOverUptoRow, standIns := [], harness := (true, "9057aab2ba222a5bcf4c88245c4ec298812a981d5a1633fc530dab7136ce4f58"), looks := true }, kinds := [], alts := [], laidByText := true, laidKinds := [.handle], laidTests := true, laidLooks := .later }
def ScopeOverUptoCardSaid : Prop := Claim7.holds Tryz.pinned (.plain (OpenSpec.upto scopeOverSpec)) scopeOverUptoCard

/-- THE SECOND FORM's CARD OF 'usufructlaw13.ScopeShows'. -/
def scopeShowsUptoCard : Claim7 := { stood := { row := scopeShowsUptoRow, standIns := [], harness := (true, "9057aab2ba222a5bcf4c88245c4ec298812a981d5a1633fc530dab7136ce4f58"), looks := true }, kinds := [], alts := [], laidByText := true, laidKinds := [.handle], laidTests := true, laidLooks := .later }
def ScopeShowsUptoCardSaid : Prop := Claim7.holds Tryz.pinned (.plain (OpenSpec.upto scopeShowsSpec)) scopeShowsUptoCard

/-- THE SECOND FORM's CARD OF 'usufructlaw13.ScopeFront'. -/
def scopeFrontUptoCard : Claim7 := { stood := { row := scopeFrontUptoRow, standIns := [], harness := (true, "9057aab2ba222a5bcf4c88245c4ec298812a981d5a1633fc530dab7136ce4f58"), looks := true }, kinds := [], alts := [], laidByText := true, laidKinds := [.handle], laidTests := true, laidLooks := .later }
def ScopeFrontUptoCardSaid : Prop := Claim7.holds Tryz.pinned (.plain (OpenSpec.upto scopeFrontSpec)) scopeFrontUptoCard

/-- THE SECOND FORM's CARD OF 'usufructlaw13.ScopePrivate'. -/
def scopePrivateUptoCard : Claim7 := { stood := { row := scopePrivateUptoRow, standIns := [], harness := (true, "9057aab2ba222a5bcf4c88245c4ec298812a981d5a1633fc530dab7136ce4f58"), looks := true }, kinds := [], alts := [], laidByText := true, laidKinds := [.handle], laidTests := true, laidLooks := .later }
def ScopePrivateUptoCardSaid : Prop := Claim7.holds Tryz.pinned (.plain (OpenSpec.upto scopePrivateSpec)) scopePrivateUptoCard
end Rows
end Go.Proofs.YtlnphjjhfgghkaaGreatDoor
