/-
  DERIVED. GIVEN WITH THE SEED: THE CARDS: each row of YtdpaiiibndnanaaGreatDoorRows.lean that lists a variable, with what it lists TIED to the program's text (the seventh form; the later family's looks); each row that meets fmt, with fmt's text TOLD by the authors' own Lean function (tested against real Go, not proved from fmt's source: count such statements apart). THE CARD IS WHAT COUNTS. Prove the row's statement (the work); the ties are given (YtdpaiiibndnanaaGreatDoorTie.lean); close each card by the builder's one call (the guide's Derived/Test/ToyasCard.lean, 'card_holds'). Laid BY PROGRAM, IN A SANDBOX (cutbox-door.mjs). By AI agents, Wed Nov 11 2026. No macro, syntax, notation, axiom, sorry.
-/
import Derived.Test.YtdpaiiibndnanaaGreatDoorRows
import GoSem.ClaimSeven
namespace Go.Proofs.YtdpaiiibndnanaaGreatDoor
namespace Rows

/-- THE TIED CARD OF 'headgatelaw11.SourceDeals'. -/
def sourceDealsCard : Claim7 := { stood := { row := sourceDealsRow, standIns := [], harness := (true, "4209e8a6d418f83a037f158d05cd456d9e6469dbe0aa78d1f30f455c8f7bbb8a"), looks := true }, kinds := [], alts := [], laidByText := true, laidKinds := [.data, .data, .data], laidTests := true, laidLooks := .later }
def SourceDealsCardSaid : Prop := Claim7.holds Tryz.pinned (.plain (OpenSpec.ofChange sourceDealsSpec)) sourceDealsCard

/-- THE TIED CARD OF 'headgatelaw11.SourceFair'. -/
def sourceFairCard : Claim7 := { stood := { row := sourceFairRow, standIns := [], harness := (true, "4209e8a6d418f83a037f158d05cd456d9e6469dbe0aa78d1f30f455c8f7bbb8a"), looks := true }, kinds := [], alts := [], laidByText := true, laidKinds := [.data, .data, .data], laidTests := true, laidLooks := .later }
def SourceFairCardSaid : Prop := Claim7.holds Tryz.pinned (.plain (OpenSpec.ofChange sourceFairSpec)) sourceFairCard

/-- THE TIED CARD OF 'headgatelaw11.SourceAll'. -/
def sourceAllCard : Claim7 := { stood := { row := sourceAllRow, standIns := [], harness := (true, "4209e8a6d418f83a037f158d05cd456d9e6469dbe0aa78d1f30f455c8f7bbb8a"), looks := true }, kinds := [], alts := [], laidByText := true, laidKinds := [.data, .data, .data], laidTests := true, laidLooks := .later }
def SourceAllCardSaid : Prop := Claim7.holds Tryz.pinned (.plain (OpenSpec.ofChange sourceAllSpec)) sourceAllCard

/-- THE TIED CARD OF 'headgatelaw11.SourceNil'. -/
def sourceNilCard : Claim7 := { stood := { row := sourceNilRow, standIns := [], harness := (true, "4209e8a6d418f83a037f158d05cd456d9e6469dbe0aa78d1f30f455c8f7bbb8a"), looks := true }, kinds := [], alts := [], laidByText := true, laidKinds := [.data, .data, .data], laidTests := true, laidLooks := .later }
def SourceNilCardSaid : Prop := Claim7.holds Tryz.pinned (.plain (OpenSpec.ofChange sourceNilSpec)) sourceNilCard

/-- THE TIED CARD OF 'headgatelaw11.SourcePlays'. -/
def sourcePlaysCard : Claim7 := { stood := { row := sourcePlaysRow, standIns := [], harness := (true, "4209e8a6d418f83a037f158d05cd456d9e6469dbe0aa78d1f30f455c8f7bbb8a"), looks := true }, kinds := [], alts := [], laidByText := true, laidKinds := [.data, .data, .data], laidTests := true, laidLooks := .later }
def SourcePlaysCardSaid : Prop := Claim7.holds Tryz.pinned (.plain (OpenSpec.ofChange sourcePlaysSpec)) sourcePlaysCard

/-- THE SECOND FORM's CARD OF 'headgatelaw11.SourceDeals'. -/
def sourceDealsUptoCard : Claim7 := { stood := { row := sourceDealsUptoRow, standIns := [], harness := (true, "4209e8a6d418f83a037f158d05cd456d9e6469dbe0aa78d1f30f455c8f7bbb8a"), looks := true }, kinds := [], alts := [], laidByText := true, laidKinds := [.data, .data, .data], laidTests := true, laidLooks := .later }
def SourceDealsUptoCardSaid : Prop := Claim7.holds Tryz.pinned (.plain (OpenSpec.upto sourceDealsSpec)) sourceDealsUptoCard

/-- THE SECOND FORM's CARD OF 'headgatelaw11.SourceFair'. -/
def sourceFairUptoCard : Claim7 := { stood := { row := sourceFairUptoRow, standIns := [], harness := (true, "4209e8a6d418f83a037f158d05cd456d9e6469dbe0aa78d1f30f455c8f7bbb8a"), looks := true }, kinds := [], alts := [], laidByText := true, laidKinds := [.data, .data, .data], laidTests := true, laidLooks := .later }
def SourceFairUptoCardSaid : Prop := Claim7.holds Tryz.pinned (.plain (OpenSpec.upto sourceFairSpec)) sourceFairUptoCard

/-- THE SECOND FORM's CARD OF 'headgatelaw11.SourceAll'. -/
def sourceAllUptoCard : Claim7 := { stood := { row := sourceAllUptoRow, standIns := [], harness := (true, "4209e8a6d418f83a037f158d05cd456d9e6469dbe0aa78d1f30f455c8f7bbb8a"), looks := true }, kinds := [], alts := [], laidByText := true, laidKinds := [.data, .data, .data], laidTests := true, laidLooks := .later }
def SourceAllUptoCardSaid : Prop := Claim7.holds Tryz.pinned (.plain (OpenSpec.upto sourceAllSpec)) sourceAllUptoCard

/-- THE SECOND FORM's CARD OF 'headgatelaw11.SourceNil'. -/
def sourceNilUptoCard : Claim7 := { stood := { row := sourceNilUptoRow, standIns := [], harness := (true, "4209e8a6d418f83a037f158d05cd456d9e6469dbe0aa78d1f30f455c8f7bbb8a"), looks := true }, kinds := [], alts := [], laidByText := true, laidKinds := [.data, .data, .data], laidTests := true, laidLooks := .later }
def SourceNilUptoCardSaid : Prop := Claim7.holds Tryz.pinned (.plain (OpenSpec.upto sourceNilSpec)) sourceNilUptoCard

/-- THE SECOND FORM's CARD OF 'headgatelaw11.SourcePlays'. -/
def sourcePlaysUptoCard : Claim7 := { stood := { row := sourcePlaysUptoRow, standIns := [], harness := (true, "4209e8a6d418f83a037f158d05cd456d9e6469dbe0aa78d1f30f455c8f7bbb8a"), looks := true }, kinds := [], alts := [], laidByText := true, laidKinds := [.data, .data, .data], laidTests := true, laidLooks := .later }
def SourcePlaysUptoCardSaid : Prop := Claim7.holds Tryz.pinned (.plain (OpenSpec.upto sourcePlaysSpec)) sourcePlaysUptoCard
end Rows
end Go.Proofs.YtdpaiiibndnanaaGreatDoor
