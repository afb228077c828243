/-
  DERIVED. GIVEN WITH THE SEED: THE CARDS: each row of YtogkggmaibeboaaDoorRows.lean that lists a variable, with what it lists TIED to the program's text (the seventh form; the later family's looks); each row that meets fmt, with fmt's text TOLD by the authors' own Lean function (tested against real Go, not proved from fmt's source: count such statements apart). THE CARD IS WHAT COUNTS. Prove the row's statement (the work); the ties are given (YtogkggmaibeboaaDoorTie.lean); close each card by the builder's one call (the guide's Derived/Test/ToyasCard.lean, 'card_holds'). Laid BY PROGRAM, IN A SANDBOX (cutbox-door.mjs). By AI agents, Wed Nov 11 2026. No macro, syntax, notation, axiom, sorry.
-/
import Derived.Test.YtogkggmaibeboaaDoorRows
import GoSem.ClaimSeven
namespace Go.Proofs.YtogkggmaibeboaaDoor
namespace Rows

/-- THE TIED CARD OF 'supercargolaw11.GoodsApart'. -/
def goodsApartCard : Claim7 := { stood := { row := goodsApartRow, standIns := [], harness := (true, "41dd2f691fc086f61b7ffea2f74cf0d3c0d111ea30996ba563822888c24024c8"), looks := false }, kinds := [], alts := [], laidByText := true, laidKinds := [.data], laidTests := true, laidLooks := .later }
def GoodsApartCardSaid : Prop := Claim7.holds Tryd.pinned (.plain (OpenSpec.ofChange goodsApartSpec)) goodsApartCard

/-- THE TIED CARD OF 'supercargolaw11.GoodsWeighed'. -/
def goodsWeighedCard : Claim7 := { stood := { row := goodsWeighedRow, standIns := [], harness := (true, "41dd2f691fc086f61b7ffea2f74cf0d3c0d111ea30996ba563822888c24024c8"), looks := false }, kinds := [], alts := [], laidByText := true, laidKinds := [.data], laidTests := true, laidLooks := .later }
def GoodsWeighedCardSaid : Prop := Claim7.holds Tryd.pinned (.plain (OpenSpec.ofChange goodsWeighedSpec)) goodsWeighedCard

/-- THE TIED CARD OF 'supercargolaw11.GoodsTables'. -/
def goodsTablesCard : Claim7 := { stood := { row := goodsTablesRow, standIns := [], harness := (true, "41dd2f691fc086f61b7ffea2f74cf0d3c0d111ea30996ba563822888c24024c8"), looks := false }, kinds := [], alts := [], laidByText := true, laidKinds := [.data], laidTests := true, laidLooks := .later }
def GoodsTablesCardSaid : Prop := Claim7.holds Tryd.pinned (.plain (OpenSpec.ofChange goodsTablesSpec)) goodsTablesCard

/-- THE TIED CARD OF 'supercargolaw11.GoodsJoins'. -/
def goodsJoinsCard : Claim7 := { stood := { row := goodsJoinsRow, standIns := [], harness := (true, "41dd2f691fc086f61b7ffea2f74cf0d3c0d111ea30996ba563822888c24024c8"), looks := false }, kinds := [], alts := [], laidByText := true, laidKinds := [.data], laidTests := true, laidLooks := .later }
def GoodsJoinsCardSaid : Prop := Claim7.holds Tryd.pinned (.plain (OpenSpec.ofChange goodsJoinsSpec)) goodsJoinsCard

/-- THE TIED CARD OF 'supercargolaw11.GoodsTaken'. -/
def goodsTakenCard : Claim7 := { stood := { row := goodsTakenRow, standIns := [], harness := (true, "41dd2f691fc086f61b7ffea2f74cf0d3c0d111ea30996ba563822888c24024c8"), looks := false }, kinds := [], alts := [], laidByText := true, laidKinds := [.data], laidTests := true, laidLooks := .later }
def GoodsTakenCardSaid : Prop := Claim7.holds Tryd.pinned (.plain (OpenSpec.ofChange goodsTakenSpec)) goodsTakenCard

/-- THE TIED CARD OF 'supercargolaw11.GoodsParts'. -/
def goodsPartsCard : Claim7 := { stood := { row := goodsPartsRow, standIns := [], harness := (true, "41dd2f691fc086f61b7ffea2f74cf0d3c0d111ea30996ba563822888c24024c8"), looks := false }, kinds := [], alts := [], laidByText := true, laidKinds := [.data], laidTests := true, laidLooks := .later }
def GoodsPartsCardSaid : Prop := Claim7.holds Tryd.pinned (.plain (OpenSpec.ofChange goodsPartsSpec)) goodsPartsCard

/-- THE TIED CARD OF 'supercargolaw11.GoodsSums'. -/
def goodsSumsCard : Claim7 := { stood := { row := goodsSumsRow, standIns := [], harness := (true, "41dd2f691fc086f61b7ffea2f74cf0d3c0d111ea30996ba563822888c24024c8"), looks := false }, kinds := [], alts := [], laidByText := true, laidKinds := [.data], laidTests := true, laidLooks := .later }
def GoodsSumsCardSaid : Prop := Claim7.holds Tryd.pinned (.plain (OpenSpec.ofChange goodsSumsSpec)) goodsSumsCard

/-- THE SECOND FORM's CARD OF 'supercargolaw11.GoodsApart'. -/
def goodsApartUptoCard : Claim7 := { stood := { row := goodsApartUptoRow, standIns := [], harness := (true, "41dd2f691fc086f61b7ffea2f74cf0d3c0d111ea30996ba563822888c24024c8"), looks := false }, kinds := [], alts := [], laidByText := true, laidKinds := [.data], laidTests := true, laidLooks := .later }
def GoodsApartUptoCardSaid : Prop := Claim7.holds Tryd.pinned (.plain (OpenSpec.upto goodsApartSpec)) goodsApartUptoCard

/-- THE SECOND FORM's CARD OF 'supercargolaw11.GoodsWeighed'. -/
def goodsWeighedUptoCard : Claim7 := { stood := { row := goodsWeighedUptoRow, standIns := [], harness := (true, "41dd2f691fc086f61b7ffea2f74cf0d3c0d111ea30996ba563822888c24024c8"), looks := false }, kinds := [], alts := [], laidByText := true, laidKinds := [.data], laidTests := true, laidLooks := .later }
def GoodsWeighedUptoCardSaid : Prop := Claim7.holds Tryd.pinned (.plain (OpenSpec.upto goodsWeighedSpec)) goodsWeighedUptoCard

/-- THE SECOND FORM's CARD OF 'supercargolaw11.GoodsTables'. -/
def goodsTablesUptoCard : Claim7 := { stood := { row := goodsTablesUptoRow, standIns := [], harness := (true, "41dd2f691fc086f61b7ffea2f74cf0d3c0d111ea30996ba563822888c24024c8"), looks := false }, kinds := [], alts := [], laidByText := true, laidKinds := [.data], laidTests := true, laidLooks := .later }
def GoodsTablesUptoCardSaid : Prop := Claim7.holds Tryd.pinned (.plain (OpenSpec.upto goodsTablesSpec)) goodsTablesUptoCard

/-- THE SECOND FORM's CARD OF 'supercargolaw11.GoodsJoins'. -/
def goodsJoinsUptoCard : Claim7 := { stood := { row := goodsJoinsUptoRow, standIns := [], harness := (true, "41dd2f691fc086f61b7ffea2f74cf0d3c0d111ea30996ba563822888c24024c8"), looks := false }, kinds := [], alts := [], laidByText := true, laidKinds := [.data], laidTests := true, laidLooks := .later }
def GoodsJoinsUptoCardSaid : Prop := Claim7.holds Tryd.pinned (.plain (OpenSpec.upto goodsJoinsSpec)) goodsJoinsUptoCard

/-- THE SECOND FORM's CARD OF 'supercargolaw11.GoodsTaken'. -/
def goodsTakenUptoCard : Claim7 := { stood := { row := goodsTakenUptoRow, standIns := [], harness := (true, "41dd2f691fc086f61b7ffea2f74cf0d3c0d111ea30996ba563822888c24024c8"), looks := false }, kinds := [], alts := [], laidByText := true, laidKinds := [.data], laidTests := true, laidLooks := .later }
def GoodsTakenUptoCardSaid : Prop := Claim7.holds Tryd.pinned (.plain (OpenSpec.upto goodsTakenSpec)) goodsTakenUptoCard

/-- THE SECOND FORM's CARD OF 'supercargolaw11.GoodsParts'. -/
def goodsPartsUptoCard : Claim7 := { stood := { row := goodsPartsUptoRow, standIns := [], harness := (true, "41dd2f691fc086f61b7ffea2f74cf0d3c0d111ea30996ba563822888c24024c8"), looks := false }, kinds := [], alts := [], laidByText := true, laidKinds := [.data], laidTests := true, laidLooks := .later }
def GoodsPartsUptoCardSaid : Prop := Claim7.holds Tryd.pinned (.plain (OpenSpec.upto goodsPartsSpec)) goodsPartsUptoCard

/-- THE SECOND FORM's CARD OF 'supercargolaw11.GoodsSums'. -/
def goodsSumsUptoCard : Claim7 := { stood := { row := goodsSumsUptoRow, standIns := [], harness := (true, "41dd2f691fc086f61b7ffea2f74cf0d3c0d111ea30996ba563822888c24024c8"), looks := false }, kinds := [], alts := [], laidByText := true, laidKinds := [.data], laidTests := true, laidLooks := .later }
def GoodsSumsUptoCardSaid : Prop := Claim7.holds Tryd.pinned (.plain (OpenSpec.upto goodsSumsSpec)) goodsSumsUptoCard
end Rows
end Go.Proofs.YtogkggmaibeboaaDoor
