/-
  DERIVED. GIVEN WITH THE SEED: THE CARDS: each row of YtbigoifpfkdkjaaGreatDoorRows.lean that lists a variable, with what it lists TIED to the program's text (the seventh form; the later family's looks); each row that meets fmt, with fmt's text TOLD by the authors' own Lean function (tested against real Go, not proved from fmt's source: count such statements apart). THE CARD IS WHAT COUNTS. Prove the row's statement (the work); the ties are given (YtbigoifpfkdkjaaGreatDoorTie.lean); close each card by the builder's one call (the guide's Derived/Test/ToyasCard.lean, 'card_holds'). Laid BY PROGRAM, IN A SANDBOX (cutbox-door.mjs). By AI agents, Wed Nov 11 2026. No macro, syntax, notation, axiom, sorry.
-/
import Derived.Test.YtbigoifpfkdkjaaGreatDoorRows
import GoSem.ClaimSeven
namespace Go.Proofs.YtbigoifpfkdkjaaGreatDoor
namespace Rows

/-- THE TIED CARD OF 'supercargotop.TopDraw'. -/
def topDrawCard : Claim7 := { stood := { row := topDrawRow, standIns := [], harness := (true, "cff51059e4da42571cfb260bfd1692761b06e9879710e0e98a7fb69556dc9dfa"), looks := false }, kinds := [], alts := [], laidByText := true, laidKinds := [.data, .data, .data], laidTests := true, laidLooks := .later }
def TopDrawCardSaid : Prop := Claim7.holds Tryz.pinned (.plain (OpenSpec.ofChange topDrawSpec)) topDrawCard

/-- THE TIED CARD OF 'supercargotop.TopEndorse'. -/
def topEndorseCard : Claim7 := { stood := { row := topEndorseRow, standIns := [], harness := (true, "cff51059e4da42571cfb260bfd1692761b06e9879710e0e98a7fb69556dc9dfa"), looks := false }, kinds := [], alts := [], laidByText := true, laidKinds := [.data, .data, .data], laidTests := true, laidLooks := .later }
def TopEndorseCardSaid : Prop := Claim7.holds Tryz.pinned (.plain (OpenSpec.ofChange topEndorseSpec)) topEndorseCard

/-- THE TIED CARD OF 'supercargotop.TopPacked'. -/
def topPackedCard : Claim7 := { stood := { row := topPackedRow, standIns := [], harness := (true, "cff51059e4da42571cfb260bfd1692761b06e9879710e0e98a7fb69556dc9dfa"), looks := false }, kinds := [], alts := [], laidByText := true, laidKinds := [.data, .data, .data, .data], laidTests := true, laidLooks := .later }
def TopPackedCardSaid : Prop := Claim7.holds Tryz.pinned (.plain (OpenSpec.ofChange topPackedSpec)) topPackedCard

/-- THE SECOND FORM's CARD OF 'supercargotop.TopDraw'. -/
def topDrawUptoCard : Claim7 := { stood := { row := topDrawUptoRow, standIns := [], harness := (true, "cff51059e4da42571cfb260bfd1692761b06e9879710e0e98a7fb69556dc9dfa"), looks := false }, kinds := [], alts := [], laidByText := true, laidKinds := [.data, .data, .data], laidTests := true, laidLooks := .later }
def TopDrawUptoCardSaid : Prop := Claim7.holds Tryz.pinned (.plain (OpenSpec.upto topDrawSpec)) topDrawUptoCard

/-- THE SECOND FORM's CARD OF 'supercargotop.TopEndorse'. -/
def topEndorseUptoCard : Claim7 := { stood := { row := topEndorseUptoRow, standIns := [], harness := (true, "cff51059e4da42571cfb260bfd1692761b06e9879710e0e98a7fb69556dc9dfa"), looks := false }, kinds := [], alts := [], laidByText := true, laidKinds := [.data, .data, .data], laidTests := true, laidLooks := .later }
def TopEndorseUptoCardSaid : Prop := Claim7.holds Tryz.pinned (.plain (OpenSpec.upto topEndorseSpec)) topEndorseUptoCard

/-- THE SECOND FORM's CARD OF 'supercargotop.TopPacked'. -/
def topPackedUptoCard : Claim7 := { stood := { row := topPackedUptoRow, standIns := [], harness := (true, "cff51059e4da42571cfb260bfd1692761b06e9879710e0e98a7fb69556dc9dfa"), looks := false }, kinds := [], alts := [], laidByText := true, laidKinds := [.data, .data, .data, .data], laidTests := true, laidLooks := .later }
def TopPackedUptoCardSaid : Prop := Claim7.holds Tryz.pinned (.plain (OpenSpec.upto topPackedSpec)) topPackedUptoCard
end Rows
end Go.Proofs.YtbigoifpfkdkjaaGreatDoor
