/-
  DERIVED. GIVEN WITH THE SEED: THE CARDS: each row of YtgnfdplphpejaaaGreatDoorRows.lean that lists a variable, with what it lists TIED to the program's text (the seventh form; the later family's looks); each row that meets fmt, with fmt's text TOLD by the authors' own Lean function (tested against real Go, not proved from fmt's source: count such statements apart). THE CARD IS WHAT COUNTS. Prove the row's statement (the work); the ties are given (YtgnfdplphpejaaaGreatDoorTie.lean); close each card by the builder's one call (the guide's Derived/Test/ToyasCard.lean, 'card_holds'). Laid BY PROGRAM, IN A SANDBOX (cutbox-door.mjs). By AI agents, Wed Nov 11 2026. No macro, syntax, notation, axiom, sorry.
-/
import Derived.Test.YtgnfdplphpejaaaGreatDoorRows
import GoSem.ClaimSeven
namespace Go.Proofs.YtgnfdplphpejaaaGreatDoor
namespace Rows

/-- THE TIED CARD OF 'supercargolaw12.PackPacks'. -/
def packPacksCard : Claim7 := { stood := { row := packPacksRow, standIns := [], harness := (true, "6e414ef5dbb1ecdd02c462b73323641914ac356d9f33e861cc6a2c70e57f8ca4"), looks := false }, kinds := [], alts := [], laidByText := true, laidKinds := [.data, .data, .data, .data], laidTests := true, laidLooks := .later }
def PackPacksCardSaid : Prop := Claim7.holds Tryz.pinned (.plain (OpenSpec.ofChange packPacksSpec)) packPacksCard

/-- THE TIED CARD OF 'supercargolaw12.PackWhole'. -/
def packWholeCard : Claim7 := { stood := { row := packWholeRow, standIns := [], harness := (true, "6e414ef5dbb1ecdd02c462b73323641914ac356d9f33e861cc6a2c70e57f8ca4"), looks := false }, kinds := [], alts := [], laidByText := true, laidKinds := [.data, .data, .data, .data], laidTests := true, laidLooks := .later }
def PackWholeCardSaid : Prop := Claim7.holds Tryz.pinned (.plain (OpenSpec.ofChange packWholeSpec)) packWholeCard

/-- THE TIED CARD OF 'supercargolaw12.PackRights'. -/
def packRightsCard : Claim7 := { stood := { row := packRightsRow, standIns := [], harness := (true, "6e414ef5dbb1ecdd02c462b73323641914ac356d9f33e861cc6a2c70e57f8ca4"), looks := false }, kinds := [], alts := [], laidByText := true, laidKinds := [.data, .data, .data, .data], laidTests := true, laidLooks := .later }
def PackRightsCardSaid : Prop := Claim7.holds Tryz.pinned (.plain (OpenSpec.ofChange packRightsSpec)) packRightsCard

/-- THE TIED CARD OF 'supercargolaw12.PackSpoils'. -/
def packSpoilsCard : Claim7 := { stood := { row := packSpoilsRow, standIns := [], harness := (true, "6e414ef5dbb1ecdd02c462b73323641914ac356d9f33e861cc6a2c70e57f8ca4"), looks := false }, kinds := [], alts := [], laidByText := true, laidKinds := [.data, .data, .data, .data], laidTests := true, laidLooks := .later }
def PackSpoilsCardSaid : Prop := Claim7.holds Tryz.pinned (.plain (OpenSpec.ofChange packSpoilsSpec)) packSpoilsCard

/-- THE TIED CARD OF 'supercargolaw12.PackLists'. -/
def packListsCard : Claim7 := { stood := { row := packListsRow, standIns := [], harness := (true, "6e414ef5dbb1ecdd02c462b73323641914ac356d9f33e861cc6a2c70e57f8ca4"), looks := false }, kinds := [], alts := [], laidByText := true, laidKinds := [.data, .data, .data, .data], laidTests := true, laidLooks := .later }
def PackListsCardSaid : Prop := Claim7.holds Tryz.pinned (.plain (OpenSpec.ofChange packListsSpec)) packListsCard

/-- THE SECOND FORM's CARD OF 'supercargolaw12.PackPacks'. -/
def packPacksUptoCard : Claim7 := { stood := { row := packPacksUptoRow, standIns := [], harness := (true, "6e414ef5dbb1ecdd02c462b73323641914ac356d9f33e861cc6a2c70e57f8ca4"), looks := false }, kinds := [], alts := [], laidByText := true, laidKinds := [.data, .data, .data, .data], laidTests := true, laidLooks := .later }
def PackPacksUptoCardSaid : Prop := Claim7.holds Tryz.pinned (.plain (OpenSpec.upto packPacksSpec)) packPacksUptoCard

/-- THE SECOND FORM's CARD OF 'supercargolaw12.PackWhole'. -/
def packWholeUptoCard : Claim7 := { stood := { row := packWholeUptoRow, standIns := [], harness := (true, "6e414ef5dbb1ecdd02c462b73323641914ac356d9f33e861cc6a2c70e57f8ca4"), looks := false }, kinds := [], alts := [], laidByText := true, laidKinds := [.data, .data, .data, .data], laidTests := true, laidLooks := .later }
def PackWholeUptoCardSaid : Prop := Claim7.holds Tryz.pinned (.plain (OpenSpec.upto packWholeSpec)) packWholeUptoCard

/-- THE SECOND FORM's CARD OF 'supercargolaw12.PackRights'. -/
def packRightsUptoCard : Claim7 := { stood := { row := packRightsUptoRow, standIns := [], harness := (true, "6e414ef5dbb1ecdd02c462b73323641914ac356d9f33e861cc6a2c70e57f8ca4"), looks := false }, kinds := [], alts := [], laidByText := true, laidKinds := [.data, .data, .data, .data], laidTests := true, laidLooks := .later }
def PackRightsUptoCardSaid : Prop := Claim7.holds Tryz.pinned (.plain (OpenSpec.upto packRightsSpec)) packRightsUptoCard

/-- THE SECOND FORM's CARD OF 'supercargolaw12.PackSpoils'. -/
def packSpoilsUptoCard : Claim7 := { stood := { row := packSpoilsUptoRow, standIns := [], harness := (true, "6e414ef5dbb1ecdd02c462b73323641914ac356d9f33e861cc6a2c70e57f8ca4"), looks := false }, kinds := [], alts := [], laidByText := true, laidKinds := [.data, .data, .data, .data], laidTests := true, laidLooks := .later }
def PackSpoilsUptoCardSaid : Prop := Claim7.holds Tryz.pinned (.plain (OpenSpec.upto packSpoilsSpec)) packSpoilsUptoCard

/-- THE SECOND FORM's CARD OF 'supercargolaw12.PackLists'. -/
def packListsUptoCard : Claim7 := { stood := { row := packListsUptoRow, standIns := [], harness := (true, "6e414ef5dbb1ecdd02c462b73323641914ac356d9f33e861cc6a2c70e57f8ca4"), looks := false }, kinds := [], alts := [], laidByText := true, laidKinds := [.data, .data, .data, .data], laidTests := true, laidLooks := .later }
def PackListsUptoCardSaid : Prop := Claim7.holds Tryz.pinned (.plain (OpenSpec.upto packListsSpec)) packListsUptoCard
end Rows
end Go.Proofs.YtgnfdplphpejaaaGreatDoor
