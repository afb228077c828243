/-
  NARROWER THAN 'FOR EVERY INPUT', by the rows' own cells (each row's printed sentence says how): TopOrder: laid.
  DERIVED. THE GIVEN ROWS OF THIS SEAT. 1 by the template 'for every input the law returns true; each argument reads behind the call as it read before'; 0 by the template 'total and deterministic' (their statements: YtnbhneeohkfocaaDoorTotals.lean).
  GIVEN WITH THE SEED: the statements are not yours to turn. If you find one false, say at which input.
  Laid BY PROGRAM, IN A SANDBOX (cutbox-rows.mjs): the forced cells as the released guide's own fill.sh prints them over the translation 3bf88822f670d555… (all of the seat's roots in one cut). By AI agents, Wed Nov 11 2026. No macro, syntax, notation, axiom, sorry.
-/
import Derived.Test.YtnbhneeohkfocaaDoorChecked
import GoSem.Claim
import GoSem.ClaimJoined
import GoSem.ClaimMapViews
import Derived.JoinedTies
import Derived.KernelRfl
namespace Go.Proofs.YtnbhneeohkfocaaDoor
/- THE CELL 'sum', in the pinned program and in every row, IS THE sha256 OF THE DUMP (.gsa) THAT YtnbhneeohkfocaaDoorProg.lean LOADS. Nothing in Lean hashes anything: it is a label: what it is worth is what the hold of that sum in a sandbox is worth. -/
noncomputable def Tryd.pinned : Pinned := { name := "ytnbhneeohkfocaadoor", sum := "3bf88822f670d5550e40b54ba8842c65350ba91cc6cf141de6d03eec7f0c9601", checked := Tryd.checked }
namespace Rows
def none {H : Type} : Left H := { results := [], args := [] }

/- WHAT THE LISTED PACKAGE-LEVEL VARIABLES READ AS WHEN THE CALL BEGINS. Each datum BY PROGRAM (the guide's laid-datum.mjs) off the statement by which the dump's own 'gosem.cut.vars' lays the variable. In a bare row this is a premise. The card (YtnbhneeohkfocaaDoorCards.lean) ties it to the program's text. -/
def laid_supercargo_term_terms {H : Type} : DataW H := .agg [.agg [.lit (.string [97, 116, 45, 119, 111, 114, 107, 115]), .lit (.int .i64 1), .lit (.int .i64 1), .slice [.lit (.int .i64 0), .lit (.int .i64 1)] []], .agg [.lit (.string [116, 111, 45, 99, 97, 114, 114, 105, 101, 114]), .lit (.int .i64 2), .lit (.int .i64 2), .slice [.lit (.int .i64 0), .lit (.int .i64 1)] []], .agg [.lit (.string [111, 110, 45, 98, 111, 97, 114, 100]), .lit (.int .i64 3), .lit (.int .i64 3), .slice [.lit (.int .i64 0), .lit (.int .i64 1), .lit (.int .i64 2)] []], .agg [.lit (.string [102, 114, 101, 105, 103, 104, 116, 45, 112, 97, 105, 100]), .lit (.int .i64 5), .lit (.int .i64 2), .slice [.lit (.int .i64 0), .lit (.int .i64 1), .lit (.int .i64 2)] []], .agg [.lit (.string [105, 110, 115, 117, 114, 101, 100]), .lit (.int .i64 5), .lit (.int .i64 3), .slice [.lit (.int .i64 0), .lit (.int .i64 1), .lit (.int .i64 2), .lit (.int .i64 3)] []], .agg [.lit (.string [108, 97, 110, 100, 101, 100]), .lit (.int .i64 5), .lit (.int .i64 5), .slice [.lit (.int .i64 0), .lit (.int .i64 1), .lit (.int .i64 2)] []], .agg [.lit (.string [99, 108, 101, 97, 114, 101, 100]), .lit (.int .i64 6), .lit (.int .i64 6), .slice [.lit (.int .i64 0), .lit (.int .i64 1), .lit (.int .i64 2), .lit (.int .i64 4)] []], .agg [.lit (.string [97, 116, 45, 100, 111, 111, 114]), .lit (.int .i64 7), .lit (.int .i64 7), .slice [.lit (.int .i64 0), .lit (.int .i64 1), .lit (.int .i64 2), .lit (.int .i64 4)] []]]

/-- 'supercargotop.TopOrder': WHATEVER THE INPUT: true; the input reads as it did. -/
def topOrderSpec : ChangeSpec := { name := "topOrder", fn := fun _ => fun
  | [d1, d2, d3] => { results := [.lit (.bool true)], args := [d1, d2, d3] }
  | _ => none }
def topOrderRow : OpenClaim := { program := "ytnbhneeohkfocaadoor", sum := "3bf88822f670d5550e40b54ba8842c65350ba91cc6cf141de6d03eec7f0c9601", func := "supercargo/supercargotop.TopOrder", spec := "topOrder", unfollowed := true, recurses := true, named := ["math/bits.divideError", "math/bits.overflowError", "supercargo/term.terms"], apart := false, laid := [("supercargo/term.terms", laid_supercargo_term_terms)] }
def TopOrderSaid : Prop := topOrderRow.holds Tryd.pinned (OpenSpec.ofChange topOrderSpec)

/-- ITS FALSE NEIGHBOUR: 'it returns false'. Refute it at one input. -/
def topOrderWrong : ChangeSpec := { name := "topOrder", fn := fun _ => fun
  | [d1, d2, d3] => { results := [.lit (.bool false)], args := [d1, d2, d3] }
  | _ => none }
def TopOrderWrongFalsely : Prop := topOrderRow.holds Tryd.pinned (OpenSpec.ofChange topOrderWrong)

/- THE SECOND FORM. 'bulk': how many values and letters a reading holds, each counted each time it is reached (what is shared counts as often as it is met; a slice's spare places count too). A statement '..UptoSaid' is the law's where the arguments, and the package variables that the reading takes, are together of bulk at most 1048576: NARROWER than '..Said'. Prove '..Said' where nothing that the law and all that it calls make is longer than what came in: it says more and counts as full. Else prove '..UptoSaid'. A law counts once. -/
mutual
def uptoBulk {H : Type} : DataW H → Nat
  | .lit (.string bytes) => bytes.length + 1
  | .lit _ => 1
  | .nil => 1
  | .ptr d => uptoBulk d + 1
  | .slice elems spare => uptoBulkAll elems + uptoBulkAll spare + 1
  | .agg parts => uptoBulkAll parts + 1
  | .iface _ d => uptoBulk d + 1
  | .map entries => uptoBulkEntries entries + 1
  | .held _ => 1
def uptoBulkAll {H : Type} : List (DataW H) → Nat
  | [] => 0
  | d :: r => uptoBulk d + uptoBulkAll r
def uptoBulkEntries {H : Type} : List (Lit × DataW H) → Nat
  | [] => 0
  | x :: r => uptoBulkEntry x + uptoBulkEntries r
def uptoBulkEntry {H : Type} : Lit × DataW H → Nat
  | (.string bytes, d) => bytes.length + uptoBulk d + 1
  | (_, d) => uptoBulk d + 1
 end
def uptoSmall : (H : Type) → List (DataW H) → Bool := fun _ ds => decide (uptoBulkAll ds ≤ 1048576)
def OpenSpec.upto (s : _root_.Go.ChangeSpec) : _root_.Go.OpenSpec := { _root_.Go.OpenSpec.ofChange s with cond := some uptoSmall }

/-- 'supercargotop.TopOrder', WHERE WHAT IT READS IS OF BULK AT MOST 1048576: true; the input reads as it did. -/
def topOrderUptoRow : OpenClaim := { program := "ytnbhneeohkfocaadoor", sum := "3bf88822f670d5550e40b54ba8842c65350ba91cc6cf141de6d03eec7f0c9601", func := "supercargo/supercargotop.TopOrder", spec := "topOrder", unfollowed := true, recurses := true, named := ["math/bits.divideError", "math/bits.overflowError", "supercargo/term.terms"], apart := false, laid := [("supercargo/term.terms", laid_supercargo_term_terms)], narrowed := true }
def TopOrderUptoSaid : Prop := topOrderUptoRow.holds Tryd.pinned (OpenSpec.upto topOrderSpec)

end Rows
end Go.Proofs.YtnbhneeohkfocaaDoor
