/-
  DERIVED. GIVEN WITH THE SEED: THE CARDS: each row of YtgnfdplphpejaaaDoorRows.lean that lists a variable, with what it lists TIED to the program's text (the seventh form; the later family's looks); each row that meets fmt, with fmt's text TOLD by the authors' own Lean function (tested against real Go, not proved from fmt's source: count such statements apart). THE CARD IS WHAT COUNTS. Prove the row's statement (the work); the ties are given (YtgnfdplphpejaaaDoorTie.lean); close each card by the builder's one call (the guide's Derived/Test/ToyasCard.lean, 'card_holds'). Laid BY PROGRAM, IN A SANDBOX (cutbox-door.mjs). By AI agents, Wed Nov 11 2026. No macro, syntax, notation, axiom, sorry.
-/
import Derived.Test.YtgnfdplphpejaaaDoorRows
import GoSem.ClaimSeven
namespace Go.Proofs.YtgnfdplphpejaaaDoor
namespace Rows

/-- THE TIED CARD OF 'supercargolaw12.PackFirst'. -/
def packFirstCard : Claim7 := { stood := { row := packFirstRow, standIns := [], harness := (true, "3f4a542715fc77c7f5bacd6e4273d5f379725e39c10e80c198561712fa439c83"), looks := false }, kinds := [], alts := [], laidByText := true, laidKinds := [.data, .data, .data, .data], laidTests := true, laidLooks := .later }
def PackFirstCardSaid : Prop := Claim7.holds Tryd.pinned (.plain (OpenSpec.ofChange packFirstSpec)) packFirstCard

/-- THE TIED CARD OF 'supercargolaw12.PackFits'. -/
def packFitsCard : Claim7 := { stood := { row := packFitsRow, standIns := [], harness := (true, "3f4a542715fc77c7f5bacd6e4273d5f379725e39c10e80c198561712fa439c83"), looks := false }, kinds := [], alts := [], laidByText := true, laidKinds := [.data, .data, .data, .data], laidTests := true, laidLooks := .later }
def PackFitsCardSaid : Prop := Claim7.holds Tryd.pinned (.plain (OpenSpec.ofChange packFitsSpec)) packFitsCard

/-- THE SECOND FORM's CARD OF 'supercargolaw12.PackFirst'. -/
def packFirstUptoCard : Claim7 := { stood := { row := packFirstUptoRow, standIns := [], harness := (true, "3f4a542715fc77c7f5bacd6e4273d5f379725e39c10e80c198561712fa439c83"), looks := false }, kinds := [], alts := [], laidByText := true, laidKinds := [.data, .data, .data, .data], laidTests := true, laidLooks := .later }
def PackFirstUptoCardSaid : Prop := Claim7.holds Tryd.pinned (.plain (OpenSpec.upto packFirstSpec)) packFirstUptoCard

/-- THE SECOND FORM's CARD OF 'supercargolaw12.PackFits'. -/
def packFitsUptoCard : Claim7 := { stood := { row := packFitsUptoRow, standIns := [], harness := (true, "3f4a542715fc77c7f5bacd6e4273d5f379725e39c10e80c198561712fa439c83"), looks := false }, kinds := [], alts := [], laidByText := true, laidKinds := [.data, .data, .data, .data], laidTests := true, laidLooks := .later }
def PackFitsUptoCardSaid : Prop := Claim7.holds Tryd.pinned (.plain (OpenSpec.upto packFitsSpec)) packFitsUptoCard
end Rows
end Go.Proofs.YtgnfdplphpejaaaDoor
