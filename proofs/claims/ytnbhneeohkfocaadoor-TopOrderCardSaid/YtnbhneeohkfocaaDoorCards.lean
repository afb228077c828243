/-
  DERIVED. GIVEN WITH THE SEED: THE CARDS: each row of YtnbhneeohkfocaaDoorRows.lean that lists a variable, with what it lists TIED to the program's text (the seventh form; the later family's looks); each row that meets fmt, with fmt's text TOLD by the authors' own Lean function (tested against real Go, not proved from fmt's source: count such statements apart). THE CARD IS WHAT COUNTS. Prove the row's statement (the work); the ties are given (YtnbhneeohkfocaaDoorTie.lean); close each card by the builder's one call (the guide's Derived/Test/ToyasCard.lean, 'card_holds'). Laid BY PROGRAM, IN A SANDBOX (cutbox-door.mjs). By AI agents, Wed Nov 11 2026. No macro, syntax, notation, axiom, sorry.
-/
import Derived.Test.YtnbhneeohkfocaaDoorRows
import GoSem.ClaimSeven
namespace Go.Proofs.YtnbhneeohkfocaaDoor
namespace Rows

/-- THE TIED CARD OF 'supercargotop.TopOrder'. -/
def topOrderCard : Claim7 := { stood := { row := topOrderRow, standIns := [], harness := (true, "78fb6256dceb7a233b8315881d09367794a91b3d663aab38c0b95db974544891"), looks := false }, kinds := [], alts := [], laidByText := true, laidKinds := [.widerDeep], laidTests := true, laidLooks := .later }
def TopOrderCardSaid : Prop := Claim7.holds Tryd.pinned (.plain (OpenSpec.ofChange topOrderSpec)) topOrderCard

/-- THE SECOND FORM's CARD OF 'supercargotop.TopOrder'. -/
def topOrderUptoCard : Claim7 := { stood := { row := topOrderUptoRow, standIns := [], harness := (true, "78fb6256dceb7a233b8315881d09367794a91b3d663aab38c0b95db974544891"), looks := false }, kinds := [], alts := [], laidByText := true, laidKinds := [.widerDeep], laidTests := true, laidLooks := .later }
def TopOrderUptoCardSaid : Prop := Claim7.holds Tryd.pinned (.plain (OpenSpec.upto topOrderSpec)) topOrderUptoCard
end Rows
end Go.Proofs.YtnbhneeohkfocaaDoor
