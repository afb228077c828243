/-
  No cell of these rows narrows 'for every input' (looked for: loops, veiled, ifaces, maps, wideKeys, modest, calm, conditions, laid).
  DERIVED. THE GIVEN ROWS OF THIS SEAT. 5 by the template 'for every input the law returns true; each argument reads behind the call as it read before'; 0 by the template 'total and deterministic' (their statements: YticnmmfiadpbbaaTotals.lean).
  GIVEN WITH THE SEED: the statements are not yours to turn. If you find one false, say at which input.
  Laid BY PROGRAM, IN A SANDBOX (cutbox-rows.mjs): the forced cells as the released guide's own fill.sh prints them over the translation 1aa2f2eded0d6da5… (all of the seat's roots in one cut). By AI agents, Wed Nov 11 2026. No macro, syntax, notation, axiom, sorry.
-/
import Derived.Test.YticnmmfiadpbbaaChecked
import GoSem.Claim
import GoSem.ClaimJoined
import GoSem.ClaimMapViews
import Derived.JoinedTies
import Derived.KernelRfl
namespace Go.Proofs.Yticnmmfiadpbbaa
/- THE CELL 'sum', in the pinned program and in every row, IS THE sha256 OF THE DUMP (.gsa) THAT YticnmmfiadpbbaaProg.lean LOADS. Nothing in Lean hashes anything: it is a label: what it is worth is what the hold of that sum in a sandbox is worth. -/
noncomputable def Try.pinned : Pinned := { name := "yticnmmfiadpbbaa", sum := "1aa2f2eded0d6da5545b4eab417eaeadbfa3a3db0ea89afa3837061cb71df7a5", checked := Try.checked }
namespace Rows
def none {H : Type} : Left H := { results := [], args := [] }

/-- 'supercargolaw25.ReceiptStock': WHATEVER THE INPUT: true; the input reads as it did. -/
def receiptStockSpec : ChangeSpec := { name := "receiptStock", fn := fun _ => fun
  | [d] => { results := [.lit (.bool true)], args := [d] }
  | _ => none }
def receiptStockRow : OpenClaim := { program := "yticnmmfiadpbbaa", sum := "1aa2f2eded0d6da5545b4eab417eaeadbfa3a3db0ea89afa3837061cb71df7a5", func := "supercargo/supercargolaw25.ReceiptStock", spec := "receiptStock", unfollowed := true, recurses := true, apart := false }
def ReceiptStockSaid : Prop := receiptStockRow.holds Try.pinned (OpenSpec.ofChange receiptStockSpec)

/-- ITS FALSE NEIGHBOUR: 'it returns false'. Refute it at one input. -/
def receiptStockWrong : ChangeSpec := { name := "receiptStock", fn := fun _ => fun
  | [d] => { results := [.lit (.bool false)], args := [d] }
  | _ => none }
def ReceiptStockWrongFalsely : Prop := receiptStockRow.holds Try.pinned (OpenSpec.ofChange receiptStockWrong)

/-- 'supercargolaw25.ReceiptHolders': WHATEVER THE INPUT: true; the input reads as it did. -/
def receiptHoldersSpec : ChangeSpec := { name := "receiptHolders", fn := fun _ => fun
  | [d1, d2] => { results := [.lit (.bool true)], args := [d1, d2] }
  | _ => none }
def receiptHoldersRow : OpenClaim := { program := "yticnmmfiadpbbaa", sum := "1aa2f2eded0d6da5545b4eab417eaeadbfa3a3db0ea89afa3837061cb71df7a5", func := "supercargo/supercargolaw25.ReceiptHolders", spec := "receiptHolders", unfollowed := true, recurses := true, apart := false }
def ReceiptHoldersSaid : Prop := receiptHoldersRow.holds Try.pinned (OpenSpec.ofChange receiptHoldersSpec)

/-- ITS FALSE NEIGHBOUR: 'it returns false'. Refute it at one input. -/
def receiptHoldersWrong : ChangeSpec := { name := "receiptHolders", fn := fun _ => fun
  | [d1, d2] => { results := [.lit (.bool false)], args := [d1, d2] }
  | _ => none }
def ReceiptHoldersWrongFalsely : Prop := receiptHoldersRow.holds Try.pinned (OpenSpec.ofChange receiptHoldersWrong)

/-- 'supercargolaw25.ReceiptNumbers': WHATEVER THE INPUT: true; the input reads as it did. -/
def receiptNumbersSpec : ChangeSpec := { name := "receiptNumbers", fn := fun _ => fun
  | [d1, d2, d3] => { results := [.lit (.bool true)], args := [d1, d2, d3] }
  | _ => none }
def receiptNumbersRow : OpenClaim := { program := "yticnmmfiadpbbaa", sum := "1aa2f2eded0d6da5545b4eab417eaeadbfa3a3db0ea89afa3837061cb71df7a5", func := "supercargo/supercargolaw25.ReceiptNumbers", spec := "receiptNumbers", unfollowed := true, recurses := true, apart := false }
def ReceiptNumbersSaid : Prop := receiptNumbersRow.holds Try.pinned (OpenSpec.ofChange receiptNumbersSpec)

/-- ITS FALSE NEIGHBOUR: 'it returns false'. Refute it at one input. -/
def receiptNumbersWrong : ChangeSpec := { name := "receiptNumbers", fn := fun _ => fun
  | [d1, d2, d3] => { results := [.lit (.bool false)], args := [d1, d2, d3] }
  | _ => none }
def ReceiptNumbersWrongFalsely : Prop := receiptNumbersRow.holds Try.pinned (OpenSpec.ofChange receiptNumbersWrong)

/-- 'supercargolaw25.ReceiptCopies': WHATEVER THE INPUT: true; the input reads as it did. -/
def receiptCopiesSpec : ChangeSpec := { name := "receiptCopies", fn := fun _ => fun
  | [d1, d2] => { results := [.lit (.bool true)], args := [d1, d2] }
  | _ => none }
def receiptCopiesRow : OpenClaim := { program := "yticnmmfiadpbbaa", sum := "1aa2f2eded0d6da5545b4eab417eaeadbfa3a3db0ea89afa3837061cb71df7a5", func := "supercargo/supercargolaw25.ReceiptCopies", spec := "receiptCopies", unfollowed := true, recurses := true, apart := false }
def ReceiptCopiesSaid : Prop := receiptCopiesRow.holds Try.pinned (OpenSpec.ofChange receiptCopiesSpec)

/-- ITS FALSE NEIGHBOUR: 'it returns false'. Refute it at one input. -/
def receiptCopiesWrong : ChangeSpec := { name := "receiptCopies", fn := fun _ => fun
  | [d1, d2] => { results := [.lit (.bool false)], args := [d1, d2] }
  | _ => none }
def ReceiptCopiesWrongFalsely : Prop := receiptCopiesRow.holds Try.pinned (OpenSpec.ofChange receiptCopiesWrong)

/-- 'supercargolaw25.ReceiptCharges': WHATEVER THE INPUT: true; the input reads as it did. -/
def receiptChargesSpec : ChangeSpec := { name := "receiptCharges", fn := fun _ => fun
  | [d1, d2, d3, d4] => { results := [.lit (.bool true)], args := [d1, d2, d3, d4] }
  | _ => none }
def receiptChargesRow : OpenClaim := { program := "yticnmmfiadpbbaa", sum := "1aa2f2eded0d6da5545b4eab417eaeadbfa3a3db0ea89afa3837061cb71df7a5", func := "supercargo/supercargolaw25.ReceiptCharges", spec := "receiptCharges", unfollowed := true, recurses := true, apart := false }
def ReceiptChargesSaid : Prop := receiptChargesRow.holds Try.pinned (OpenSpec.ofChange receiptChargesSpec)

/-- ITS FALSE NEIGHBOUR: 'it returns false'. Refute it at one input. -/
def receiptChargesWrong : ChangeSpec := { name := "receiptCharges", fn := fun _ => fun
  | [d1, d2, d3, d4] => { results := [.lit (.bool false)], args := [d1, d2, d3, d4] }
  | _ => none }
def ReceiptChargesWrongFalsely : Prop := receiptChargesRow.holds Try.pinned (OpenSpec.ofChange receiptChargesWrong)

/- THE SECOND FORM. 'bulk': how many values and letters a reading holds, each counted each time it is reached (what is shared counts as often as it is met; a slice's spare places count too). A statement '..UptoSaid' is the law's where the arguments, and the package variables that the reading takes, are together of bulk at most 1048576: NARROWER than '..Said'. Prove '..Said' where nothing that the law and all that it calls make is longer than what came in: it says more and counts as full. Else prove '..UptoSaid'. A law counts once. -/
mutual
def uptoBulk {H : Type} : DataW H → Nat
  | .lit (.string bytes) => bytes.length + 1
  | .lit _ => 1
  | .nil => 1
  | .ptr d => uptoBulk d + 1
  | .slice elems spare => uptoBulkAll elems + uptoBulkAll spare + 1
  | .agg parts => uptoBulkAll parts + 1
  | .iface _ d => uptoBulk d + 1
  | .map entries => uptoBulkEntries entries + 1
  | .held _ => 1
def uptoBulkAll {H : Type} : List (DataW H) → Nat
  | [] => 0
  | d :: r => uptoBulk d + uptoBulkAll r
def uptoBulkEntries {H : Type} : List (Lit × DataW H) → Nat
  | [] => 0
  | x :: r => uptoBulkEntry x + uptoBulkEntries r
def uptoBulkEntry {H : Type} : Lit × DataW H → Nat
  | (.string bytes, d) => bytes.length + uptoBulk d + 1
  | (_, d) => uptoBulk d + 1
 end
def uptoSmall : (H : Type) → List (DataW H) → Bool := fun _ ds => decide (uptoBulkAll ds ≤ 1048576)
def OpenSpec.upto (s : _root_.Go.ChangeSpec) : _root_.Go.OpenSpec := { _root_.Go.OpenSpec.ofChange s with cond := some uptoSmall }

/-- 'supercargolaw25.ReceiptStock', WHERE WHAT IT READS IS OF BULK AT MOST 1048576: true; the input reads as it did. -/
def receiptStockUptoRow : OpenClaim := { program := "yticnmmfiadpbbaa", sum := "1aa2f2eded0d6da5545b4eab417eaeadbfa3a3db0ea89afa3837061cb71df7a5", func := "supercargo/supercargolaw25.ReceiptStock", spec := "receiptStock", unfollowed := true, recurses := true, apart := false, narrowed := true }
def ReceiptStockUptoSaid : Prop := receiptStockUptoRow.holds Try.pinned (OpenSpec.upto receiptStockSpec)

/-- 'supercargolaw25.ReceiptHolders', WHERE WHAT IT READS IS OF BULK AT MOST 1048576: true; the input reads as it did. -/
def receiptHoldersUptoRow : OpenClaim := { program := "yticnmmfiadpbbaa", sum := "1aa2f2eded0d6da5545b4eab417eaeadbfa3a3db0ea89afa3837061cb71df7a5", func := "supercargo/supercargolaw25.ReceiptHolders", spec := "receiptHolders", unfollowed := true, recurses := true, apart := false, narrowed := true }
def ReceiptHoldersUptoSaid : Prop := receiptHoldersUptoRow.holds Try.pinned (OpenSpec.upto receiptHoldersSpec)

/-- 'supercargolaw25.ReceiptNumbers', WHERE WHAT IT READS IS OF BULK AT MOST 1048576: true; the input reads as it did. -/
def receiptNumbersUptoRow : OpenClaim := { program := "yticnmmfiadpbbaa", sum := "1aa2f2eded0d6da5545b4eab417eaeadbfa3a3db0ea89afa3837061cb71df7a5", func := "supercargo/supercargolaw25.ReceiptNumbers", spec := "receiptNumbers", unfollowed := true, recurses := true, apart := false, narrowed := true }
def ReceiptNumbersUptoSaid : Prop := receiptNumbersUptoRow.holds Try.pinned (OpenSpec.upto receiptNumbersSpec)

/-- 'supercargolaw25.ReceiptCopies', WHERE WHAT IT READS IS OF BULK AT MOST 1048576: true; the input reads as it did. -/
def receiptCopiesUptoRow : OpenClaim := { program := "yticnmmfiadpbbaa", sum := "1aa2f2eded0d6da5545b4eab417eaeadbfa3a3db0ea89afa3837061cb71df7a5", func := "supercargo/supercargolaw25.ReceiptCopies", spec := "receiptCopies", unfollowed := true, recurses := true, apart := false, narrowed := true }
def ReceiptCopiesUptoSaid : Prop := receiptCopiesUptoRow.holds Try.pinned (OpenSpec.upto receiptCopiesSpec)

/-- 'supercargolaw25.ReceiptCharges', WHERE WHAT IT READS IS OF BULK AT MOST 1048576: true; the input reads as it did. -/
def receiptChargesUptoRow : OpenClaim := { program := "yticnmmfiadpbbaa", sum := "1aa2f2eded0d6da5545b4eab417eaeadbfa3a3db0ea89afa3837061cb71df7a5", func := "supercargo/supercargolaw25.ReceiptCharges", spec := "receiptCharges", unfollowed := true, recurses := true, apart := false, narrowed := true }
def ReceiptChargesUptoSaid : Prop := receiptChargesUptoRow.holds Try.pinned (OpenSpec.upto receiptChargesSpec)

end Rows
end Go.Proofs.Yticnmmfiadpbbaa
