/-
  DERIVED. GIVEN WITH THE SEED: THE CARDS: each row of YtlibahklbbachaaGreatDoorRows.lean that lists a variable, with what it lists TIED to the program's text (the seventh form; the later family's looks); each row that meets fmt, with fmt's text TOLD by the authors' own Lean function (tested against real Go, not proved from fmt's source: count such statements apart). THE CARD IS WHAT COUNTS. Prove the row's statement (the work); the ties are given (YtlibahklbbachaaGreatDoorTie.lean); close each card by the builder's one call (the guide's Derived/Test/ToyasCard.lean, 'card_holds'). Laid BY PROGRAM, IN A SANDBOX (cutbox-door.mjs). By AI agents, Wed Nov 11 2026. No macro, syntax, notation, axiom, sorry.
-/
import Derived.Test.YtlibahklbbachaaGreatDoorRows
import GoSem.ClaimSeven
namespace Go.Proofs.YtlibahklbbachaaGreatDoor
namespace Rows

/-- THE TIED CARD OF 'marginalialaw15.PrimRefuses'. -/
def primRefusesCard : Claim7 := { stood := { row := primRefusesRow, standIns := [], harness := (true, "ecae2bca8e89a999d223f899ad5080887fc1c2dd4a56440504861f3312c3fd5a"), looks := true }, kinds := [], alts := [], laidByText := true, laidKinds := [.data, .data, .data, .data, .sentinel, .sentinel, .pinned], laidTests := true, laidLooks := .later }
def PrimRefusesCardSaid : Prop := Claim7.holds Tryz.pinned (.plain (OpenSpec.ofChange primRefusesSpec)) primRefusesCard

/-- THE TIED CARD OF 'marginalialaw15.PrimLists'. -/
def primListsCard : Claim7 := { stood := { row := primListsRow, standIns := [], harness := (true, "ecae2bca8e89a999d223f899ad5080887fc1c2dd4a56440504861f3312c3fd5a"), looks := true }, kinds := [], alts := [], laidByText := true, laidKinds := [.data, .data, .data, .data, .sentinel, .sentinel, .pinned], laidTests := true, laidLooks := .later }
def PrimListsCardSaid : Prop := Claim7.holds Tryz.pinned (.plain (OpenSpec.ofChange primListsSpec)) primListsCard

/-- THE TIED CARD OF 'marginalialaw15.PrimTexts'. -/
def primTextsCard : Claim7 := { stood := { row := primTextsRow, standIns := [], harness := (true, "ecae2bca8e89a999d223f899ad5080887fc1c2dd4a56440504861f3312c3fd5a"), looks := true }, kinds := [], alts := [], laidByText := true, laidKinds := [.data, .data, .data, .data, .sentinel, .sentinel, .pinned], laidTests := true, laidLooks := .later }
def PrimTextsCardSaid : Prop := Claim7.holds Tryz.pinned (.plain (OpenSpec.ofChange primTextsSpec)) primTextsCard

/-- THE TIED CARD OF 'marginalialaw15.PrimVectors'. -/
def primVectorsCard : Claim7 := { stood := { row := primVectorsRow, standIns := [], harness := (true, "ecae2bca8e89a999d223f899ad5080887fc1c2dd4a56440504861f3312c3fd5a"), looks := true }, kinds := [], alts := [], laidByText := true, laidKinds := [.data, .data, .data, .data, .sentinel, .sentinel, .pinned], laidTests := true, laidLooks := .later }
def PrimVectorsCardSaid : Prop := Claim7.holds Tryz.pinned (.plain (OpenSpec.ofChange primVectorsSpec)) primVectorsCard

/-- THE TIED CARD OF 'marginalialaw15.PrimTable'. -/
def primTableCard : Claim7 := { stood := { row := primTableRow, standIns := [], harness := (true, "ecae2bca8e89a999d223f899ad5080887fc1c2dd4a56440504861f3312c3fd5a"), looks := true }, kinds := [], alts := [], laidByText := true, laidKinds := [.data, .data, .data, .data, .sentinel, .sentinel, .pinned], laidTests := true, laidLooks := .later }
def PrimTableCardSaid : Prop := Claim7.holds Tryz.pinned (.plain (OpenSpec.ofChange primTableSpec)) primTableCard

/-- THE SECOND FORM's CARD OF 'marginalialaw15.PrimRefuses'. -/
def primRefusesUptoCard : Claim7 := { stood := { row := primRefusesUptoRow, standIns := [], harness := (true, "ecae2bca8e89a999d223f899ad5080887fc1c2dd4a56440504861f3312c3fd5a"), looks := true }, kinds := [], alts := [], laidByText := true, laidKinds := [.data, .data, .data, .data, .sentinel, .sentinel, .pinned], laidTests := true, laidLooks := .later }
def PrimRefusesUptoCardSaid : Prop := Claim7.holds Tryz.pinned (.plain (OpenSpec.upto primRefusesSpec)) primRefusesUptoCard

/-- THE SECOND FORM's CARD OF 'marginalialaw15.PrimLists'. -/
def primListsUptoCard : Claim7 := { stood := { row := primListsUptoRow, standIns := [], harness := (true, "ecae2bca8e89a999d223f899ad5080887fc1c2dd4a56440504861f3312c3fd5a"), looks := true }, kinds := [], alts := [], laidByText := true, laidKinds := [.data, .data, .data, .data, .sentinel, .sentinel, .pinned], laidTests := true, laidLooks := .later }
def PrimListsUptoCardSaid : Prop := Claim7.holds Tryz.pinned (.plain (OpenSpec.upto primListsSpec)) primListsUptoCard

/-- THE SECOND FORM's CARD OF 'marginalialaw15.PrimTexts'. -/
def primTextsUptoCard : Claim7 := { stood := { row := primTextsUptoRow, standIns := [], harness := (true, "ecae2bca8e89a999d223f899ad5080887fc1c2dd4a56440504861f3312c3fd5a"), looks := true }, kinds := [], alts := [], laidByText := true, laidKinds := [.data, .data, .data, .data, .sentinel, .sentinel, .pinned], laidTests := true, laidLooks := .later }
def PrimTextsUptoCardSaid : Prop := Claim7.holds Tryz.pinned (.plain (OpenSpec.upto primTextsSpec)) primTextsUptoCard

/-- THE SECOND FORM's CARD OF 'marginalialaw15.PrimVectors'. -/
def primVectorsUptoCard : Claim7 := { stood := { row := primVectorsUptoRow, standIns := [], harness := (true, "ecae2bca8e89a999d223f899ad5080887fc1c2dd4a56440504861f3312c3fd5a"), looks := true }, kinds := [], alts := [], laidByText := true, laidKinds := [.data, .data, .data, .data, .sentinel, .sentinel, .pinned], laidTests := true, laidLooks := .later }
def PrimVectorsUptoCardSaid : Prop := Claim7.holds Tryz.pinned (.plain (OpenSpec.upto primVectorsSpec)) primVectorsUptoCard

/-- THE SECOND FORM's CARD OF 'marginalialaw15.PrimTable'. -/
def primTableUptoCard : Claim7 := { stood := { row := primTableUptoRow, standIns := [], harness := (true, "ecae2bca8e89a999d223f899ad5080887fc1c2dd4a56440504861f3312c3fd5a"), looks := true }, kinds := [], alts := [], laidByText := true, laidKinds := [.data, .data, .data, .data, .sentinel, .sentinel, .pinned], laidTests := true, laidLooks := .later }
def PrimTableUptoCardSaid : Prop := Claim7.holds Tryz.pinned (.plain (OpenSpec.upto primTableSpec)) primTableUptoCard
end Rows
end Go.Proofs.YtlibahklbbachaaGreatDoor
