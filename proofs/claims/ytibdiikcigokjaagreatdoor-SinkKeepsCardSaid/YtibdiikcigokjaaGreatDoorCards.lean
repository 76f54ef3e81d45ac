/-
  DERIVED. GIVEN WITH THE SEED: THE CARDS: each row of YtibdiikcigokjaaGreatDoorRows.lean that lists a variable, with what it lists TIED to the program's text (the seventh form; the later family's looks); each row that meets fmt, with fmt's text TOLD by the authors' own Lean function (tested against real Go, not proved from fmt's source: count such statements apart). THE CARD IS WHAT COUNTS. Prove the row's statement (the work); the ties are given (YtibdiikcigokjaaGreatDoorTie.lean); close each card by the builder's one call (the guide's Derived/Test/ToyasCard.lean, 'card_holds'). Laid BY PROGRAM, IN A SANDBOX (cutbox-door.mjs). By AI agents, Wed Nov 11 2026. No macro, syntax, notation, axiom, sorry.
-/
import Derived.Test.YtibdiikcigokjaaGreatDoorRows
import GoSem.ClaimSeven
namespace Go.Proofs.YtibdiikcigokjaaGreatDoor
namespace Rows

/-- THE TIED CARD OF 'headgatelaw24.SinkNil'. -/
def sinkNilCard : Claim7 := { stood := { row := sinkNilRow, standIns := [], harness := (true, "f3436322d36b7540879d22533ab8189433e123248d5299c33e85c30fd5955c7f"), looks := true }, kinds := [], alts := [], laidByText := true, laidKinds := [.data, .pinned], laidTests := true, laidLooks := .later }
def SinkNilCardSaid : Prop := Claim7.holds Tryz.pinned (.plain (OpenSpec.ofChange sinkNilSpec)) sinkNilCard

/-- THE TIED CARD OF 'headgatelaw24.SinkFolds'. -/
def sinkFoldsCard : Claim7 := { stood := { row := sinkFoldsRow, standIns := [], harness := (true, "f3436322d36b7540879d22533ab8189433e123248d5299c33e85c30fd5955c7f"), looks := true }, kinds := [], alts := [], laidByText := true, laidKinds := [.data, .pinned], laidTests := true, laidLooks := .later }
def SinkFoldsCardSaid : Prop := Claim7.holds Tryz.pinned (.plain (OpenSpec.ofChange sinkFoldsSpec)) sinkFoldsCard

/-- THE TIED CARD OF 'headgatelaw24.SinkKeeps'. -/
def sinkKeepsCard : Claim7 := { stood := { row := sinkKeepsRow, standIns := [], harness := (true, "f3436322d36b7540879d22533ab8189433e123248d5299c33e85c30fd5955c7f"), looks := true }, kinds := [], alts := [], laidByText := true, laidKinds := [.data, .pinned], laidTests := true, laidLooks := .later }
def SinkKeepsCardSaid : Prop := Claim7.holds Tryz.pinned (.plain (OpenSpec.ofChange sinkKeepsSpec)) sinkKeepsCard

/-- THE TIED CARD OF 'headgatelaw24.SinkPlays'. -/
def sinkPlaysCard : Claim7 := { stood := { row := sinkPlaysRow, standIns := [], harness := (true, "f3436322d36b7540879d22533ab8189433e123248d5299c33e85c30fd5955c7f"), looks := true }, kinds := [], alts := [], laidByText := true, laidKinds := [.data, .pinned], laidTests := true, laidLooks := .later }
def SinkPlaysCardSaid : Prop := Claim7.holds Tryz.pinned (.plain (OpenSpec.ofChange sinkPlaysSpec)) sinkPlaysCard

/-- THE SECOND FORM's CARD OF 'headgatelaw24.SinkNil'. -/
def sinkNilUptoCard : Claim7 := { stood := { row := sinkNilUptoRow, standIns := [], harness := (true, "f3436322d36b7540879d22533ab8189433e123248d5299c33e85c30fd5955c7f"), looks := true }, kinds := [], alts := [], laidByText := true, laidKinds := [.data, .pinned], laidTests := true, laidLooks := .later }
def SinkNilUptoCardSaid : Prop := Claim7.holds Tryz.pinned (.plain (OpenSpec.upto sinkNilSpec)) sinkNilUptoCard

/-- THE SECOND FORM's CARD OF 'headgatelaw24.SinkFolds'. -/
def sinkFoldsUptoCard : Claim7 := { stood := { row := sinkFoldsUptoRow, standIns := [], harness := (true, "f3436322d36b7540879d22533ab8189433e123248d5299c33e85c30fd5955c7f"), looks := true }, kinds := [], alts := [], laidByText := true, laidKinds := [.data, .pinned], laidTests := true, laidLooks := .later }
def SinkFoldsUptoCardSaid : Prop := Claim7.holds Tryz.pinned (.plain (OpenSpec.upto sinkFoldsSpec)) sinkFoldsUptoCard

/-- THE SECOND FORM's CARD OF 'headgatelaw24.SinkKeeps'. -/
def sinkKeepsUptoCard : Claim7 := { stood := { row := sinkKeepsUptoRow, standIns := [], harness := (true, "f3436322d36b7540879d22533ab8189433e123248d5299c33e85c30fd5955c7f"), looks := true }, kinds := [], alts := [], laidByText := true, laidKinds := [.data, .pinned], laidTests := true, laidLooks := .later }
def SinkKeepsUptoCardSaid : Prop := Claim7.holds Tryz.pinned (.plain (OpenSpec.upto sinkKeepsSpec)) sinkKeepsUptoCard

/-- THE SECOND FORM's CARD OF 'headgatelaw24.SinkPlays'. -/
def sinkPlaysUptoCard : Claim7 := { stood := { row := sinkPlaysUptoRow, standIns := [], harness := (true, "f3436322d36b7540879d22533ab8189433e123248d5299c33e85c30fd5955c7f"), looks := true }, kinds := [], alts := [], laidByText := true, laidKinds := [.data, .pinned], laidTests := true, laidLooks := .later }
def SinkPlaysUptoCardSaid : Prop := Claim7.holds Tryz.pinned (.plain (OpenSpec.upto sinkPlaysSpec)) sinkPlaysUptoCard
end Rows
end Go.Proofs.YtibdiikcigokjaaGreatDoor
