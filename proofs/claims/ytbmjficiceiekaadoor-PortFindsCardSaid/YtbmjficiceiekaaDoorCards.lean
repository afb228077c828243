/-
  DERIVED. GIVEN WITH THE SEED: THE CARDS: each row of YtbmjficiceiekaaDoorRows.lean that lists a variable, with what it lists TIED to the program's text (the seventh form; the later family's looks); each row that meets fmt, with fmt's text TOLD by the authors' own Lean function (tested against real Go, not proved from fmt's source: count such statements apart). THE CARD IS WHAT COUNTS. Prove the row's statement (the work); the ties are given (YtbmjficiceiekaaDoorTie.lean); close each card by the builder's one call (the guide's Derived/Test/ToyasCard.lean, 'card_holds'). Laid BY PROGRAM, IN A SANDBOX (cutbox-door.mjs). By AI agents, Wed Nov 11 2026. No macro, syntax, notation, axiom, sorry.
-/
import Derived.Test.YtbmjficiceiekaaDoorRows
import GoSem.ClaimSeven
namespace Go.Proofs.YtbmjficiceiekaaDoor
namespace Rows

/-- THE TIED CARD OF 'supercargolaw16.PortFinds'. -/
def portFindsCard : Claim7 := { stood := { row := portFindsRow, standIns := [], harness := (true, "3ab3c74f607bf643db451fd0601bc10fa874ac901d9cf1470cd39c97329e3520"), looks := true }, kinds := [], alts := [], laidByText := true, laidKinds := [.data, .data, .data], laidTests := true, laidLooks := .later }
def PortFindsCardSaid : Prop := Claim7.holds Tryd.pinned (.plain (OpenSpec.ofChange portFindsSpec)) portFindsCard

/-- THE TIED CARD OF 'supercargolaw16.PortEarliest'. -/
def portEarliestCard : Claim7 := { stood := { row := portEarliestRow, standIns := [], harness := (true, "3ab3c74f607bf643db451fd0601bc10fa874ac901d9cf1470cd39c97329e3520"), looks := true }, kinds := [], alts := [], laidByText := true, laidKinds := [.data, .data, .data], laidTests := true, laidLooks := .later }
def PortEarliestCardSaid : Prop := Claim7.holds Tryd.pinned (.plain (OpenSpec.ofChange portEarliestSpec)) portEarliestCard

/-- THE TIED CARD OF 'supercargolaw16.PortSooner'. -/
def portSoonerCard : Claim7 := { stood := { row := portSoonerRow, standIns := [], harness := (true, "3ab3c74f607bf643db451fd0601bc10fa874ac901d9cf1470cd39c97329e3520"), looks := true }, kinds := [], alts := [], laidByText := true, laidKinds := [.data, .data, .data], laidTests := true, laidLooks := .later }
def PortSoonerCardSaid : Prop := Claim7.holds Tryd.pinned (.plain (OpenSpec.ofChange portSoonerSpec)) portSoonerCard

/-- THE TIED CARD OF 'supercargolaw16.PortMays'. -/
def portMaysCard : Claim7 := { stood := { row := portMaysRow, standIns := [], harness := (true, "3ab3c74f607bf643db451fd0601bc10fa874ac901d9cf1470cd39c97329e3520"), looks := true }, kinds := [], alts := [], laidByText := true, laidKinds := [.data, .data, .data], laidTests := true, laidLooks := .later }
def PortMaysCardSaid : Prop := Claim7.holds Tryd.pinned (.plain (OpenSpec.ofChange portMaysSpec)) portMaysCard

/-- THE TIED CARD OF 'supercargolaw16.PortDelays'. -/
def portDelaysCard : Claim7 := { stood := { row := portDelaysRow, standIns := [], harness := (true, "3ab3c74f607bf643db451fd0601bc10fa874ac901d9cf1470cd39c97329e3520"), looks := true }, kinds := [], alts := [], laidByText := true, laidKinds := [.data, .data, .data], laidTests := true, laidLooks := .later }
def PortDelaysCardSaid : Prop := Claim7.holds Tryd.pinned (.plain (OpenSpec.ofChange portDelaysSpec)) portDelaysCard

/-- THE TIED CARD OF 'supercargolaw16.PortAdds'. -/
def portAddsCard : Claim7 := { stood := { row := portAddsRow, standIns := [], harness := (true, "3ab3c74f607bf643db451fd0601bc10fa874ac901d9cf1470cd39c97329e3520"), looks := true }, kinds := [], alts := [], laidByText := true, laidKinds := [.data, .data, .data], laidTests := true, laidLooks := .later }
def PortAddsCardSaid : Prop := Claim7.holds Tryd.pinned (.plain (OpenSpec.ofChange portAddsSpec)) portAddsCard

/-- THE TIED CARD OF 'supercargolaw16.PortRights'. -/
def portRightsCard : Claim7 := { stood := { row := portRightsRow, standIns := [], harness := (true, "3ab3c74f607bf643db451fd0601bc10fa874ac901d9cf1470cd39c97329e3520"), looks := true }, kinds := [], alts := [], laidByText := true, laidKinds := [.data, .data, .data], laidTests := true, laidLooks := .later }
def PortRightsCardSaid : Prop := Claim7.holds Tryd.pinned (.plain (OpenSpec.ofChange portRightsSpec)) portRightsCard

/-- THE SECOND FORM's CARD OF 'supercargolaw16.PortFinds'. -/
def portFindsUptoCard : Claim7 := { stood := { row := portFindsUptoRow, standIns := [], harness := (true, "3ab3c74f607bf643db451fd0601bc10fa874ac901d9cf1470cd39c97329e3520"), looks := true }, kinds := [], alts := [], laidByText := true, laidKinds := [.data, .data, .data], laidTests := true, laidLooks := .later }
def PortFindsUptoCardSaid : Prop := Claim7.holds Tryd.pinned (.plain (OpenSpec.upto portFindsSpec)) portFindsUptoCard

/-- THE SECOND FORM's CARD OF 'supercargolaw16.PortEarliest'. -/
def portEarliestUptoCard : Claim7 := { stood := { row := portEarliestUptoRow, standIns := [], harness := (true, "3ab3c74f607bf643db451fd0601bc10fa874ac901d9cf1470cd39c97329e3520"), looks := true }, kinds := [], alts := [], laidByText := true, laidKinds := [.data, .data, .data], laidTests := true, laidLooks := .later }
def PortEarliestUptoCardSaid : Prop := Claim7.holds Tryd.pinned (.plain (OpenSpec.upto portEarliestSpec)) portEarliestUptoCard

/-- THE SECOND FORM's CARD OF 'supercargolaw16.PortSooner'. -/
def portSoonerUptoCard : Claim7 := { stood := { row := portSoonerUptoRow, standIns := [], harness := (true, "3ab3c74f607bf643db451fd0601bc10fa874ac901d9cf1470cd39c97329e3520"), looks := true }, kinds := [], alts := [], laidByText := true, laidKinds := [.data, .data, .data], laidTests := true, laidLooks := .later }
def PortSoonerUptoCardSaid : Prop := Claim7.holds Tryd.pinned (.plain (OpenSpec.upto portSoonerSpec)) portSoonerUptoCard

/-- THE SECOND FORM's CARD OF 'supercargolaw16.PortMays'. -/
def portMaysUptoCard : Claim7 := { stood := { row := portMaysUptoRow, standIns := [], harness := (true, "3ab3c74f607bf643db451fd0601bc10fa874ac901d9cf1470cd39c97329e3520"), looks := true }, kinds := [], alts := [], laidByText := true, laidKinds := [.data, .data, .data], laidTests := true, laidLooks := .later }
def PortMaysUptoCardSaid : Prop := Claim7.holds Tryd.pinned (.plain (OpenSpec.upto portMaysSpec)) portMaysUptoCard

/-- THE SECOND FORM's CARD OF 'supercargolaw16.PortDelays'. -/
def portDelaysUptoCard : Claim7 := { stood := { row := portDelaysUptoRow, standIns := [], harness := (true, "3ab3c74f607bf643db451fd0601bc10fa874ac901d9cf1470cd39c97329e3520"), looks := true }, kinds := [], alts := [], laidByText := true, laidKinds := [.data, .data, .data], laidTests := true, laidLooks := .later }
def PortDelaysUptoCardSaid : Prop := Claim7.holds Tryd.pinned (.plain (OpenSpec.upto portDelaysSpec)) portDelaysUptoCard

/-- THE SECOND FORM's CARD OF 'supercargolaw16.PortAdds'. -/
def portAddsUptoCard : Claim7 := { stood := { row := portAddsUptoRow, standIns := [], harness := (true, "3ab3c74f607bf643db451fd0601bc10fa874ac901d9cf1470cd39c97329e3520"), looks := true }, kinds := [], alts := [], laidByText := true, laidKinds := [.data, .data, .data], laidTests := true, laidLooks := .later }
def PortAddsUptoCardSaid : Prop := Claim7.holds Tryd.pinned (.plain (OpenSpec.upto portAddsSpec)) portAddsUptoCard

/-- THE SECOND FORM's CARD OF 'supercargolaw16.PortRights'. -/
def portRightsUptoCard : Claim7 := { stood := { row := portRightsUptoRow, standIns := [], harness := (true, "3ab3c74f607bf643db451fd0601bc10fa874ac901d9cf1470cd39c97329e3520"), looks := true }, kinds := [], alts := [], laidByText := true, laidKinds := [.data, .data, .data], laidTests := true, laidLooks := .later }
def PortRightsUptoCardSaid : Prop := Claim7.holds Tryd.pinned (.plain (OpenSpec.upto portRightsSpec)) portRightsUptoCard
end Rows
end Go.Proofs.YtbmjficiceiekaaDoor
