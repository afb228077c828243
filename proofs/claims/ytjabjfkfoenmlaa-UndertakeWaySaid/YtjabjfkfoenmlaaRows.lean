/-
  No cell of these rows narrows 'for every input' (looked for: loops, veiled, ifaces, maps, wideKeys, modest, calm, conditions, laid).
  DERIVED. THE GIVEN ROWS OF THIS SEAT. 7 by the template 'for every input the law returns true; each argument reads behind the call as it read before'; 0 by the template 'total and deterministic' (their statements: YtjabjfkfoenmlaaTotals.lean).
  GIVEN WITH THE SEED: the statements are not yours to turn. If you find one false, say at which input.
  Laid BY PROGRAM, IN A SANDBOX (cutbox-rows.mjs): the forced cells as the released guide's own fill.sh prints them over the translation 6e75ad10518262f4… (all of the seat's roots in one cut). By AI agents, Wed Nov 11 2026. No macro, syntax, notation, axiom, sorry.
-/
import Derived.Test.YtjabjfkfoenmlaaChecked
import GoSem.Claim
import GoSem.ClaimJoined
import GoSem.ClaimMapViews
import Derived.JoinedTies
import Derived.KernelRfl
namespace Go.Proofs.Ytjabjfkfoenmlaa
/- THE CELL 'sum', in the pinned program and in every row, IS THE sha256 OF THE DUMP (.gsa) THAT YtjabjfkfoenmlaaProg.lean LOADS. Nothing in Lean hashes anything: it is a label: what it is worth is what the hold of that sum in a sandbox is worth. -/
noncomputable def Try.pinned : Pinned := { name := "ytjabjfkfoenmlaa", sum := "6e75ad10518262f43d9e86df9939449b89b747ab03bb4cd22b0d448c0fa4bf3e", checked := Try.checked }
namespace Rows
def none {H : Type} : Left H := { results := [], args := [] }

/-- 'supercargolaw34.UndertakeOwes': WHATEVER THE INPUT: true; the input reads as it did. -/
def undertakeOwesSpec : ChangeSpec := { name := "undertakeOwes", fn := fun _ => fun
  | [d1, d2] => { results := [.lit (.bool true)], args := [d1, d2] }
  | _ => none }
def undertakeOwesRow : OpenClaim := { program := "ytjabjfkfoenmlaa", sum := "6e75ad10518262f43d9e86df9939449b89b747ab03bb4cd22b0d448c0fa4bf3e", func := "supercargo/supercargolaw34.UndertakeOwes", spec := "undertakeOwes", unfollowed := true, recurses := true, apart := false }
def UndertakeOwesSaid : Prop := undertakeOwesRow.holds Try.pinned (OpenSpec.ofChange undertakeOwesSpec)

/-- ITS FALSE NEIGHBOUR: 'it returns false'. Refute it at one input. -/
def undertakeOwesWrong : ChangeSpec := { name := "undertakeOwes", fn := fun _ => fun
  | [d1, d2] => { results := [.lit (.bool false)], args := [d1, d2] }
  | _ => none }
def UndertakeOwesWrongFalsely : Prop := undertakeOwesRow.holds Try.pinned (OpenSpec.ofChange undertakeOwesWrong)

/-- 'supercargolaw34.UndertakeDraws': WHATEVER THE INPUT: true; the input reads as it did. -/
def undertakeDrawsSpec : ChangeSpec := { name := "undertakeDraws", fn := fun _ => fun
  | [d1, d2] => { results := [.lit (.bool true)], args := [d1, d2] }
  | _ => none }
def undertakeDrawsRow : OpenClaim := { program := "ytjabjfkfoenmlaa", sum := "6e75ad10518262f43d9e86df9939449b89b747ab03bb4cd22b0d448c0fa4bf3e", func := "supercargo/supercargolaw34.UndertakeDraws", spec := "undertakeDraws", unfollowed := true, recurses := true, apart := false }
def UndertakeDrawsSaid : Prop := undertakeDrawsRow.holds Try.pinned (OpenSpec.ofChange undertakeDrawsSpec)

/-- ITS FALSE NEIGHBOUR: 'it returns false'. Refute it at one input. -/
def undertakeDrawsWrong : ChangeSpec := { name := "undertakeDraws", fn := fun _ => fun
  | [d1, d2] => { results := [.lit (.bool false)], args := [d1, d2] }
  | _ => none }
def UndertakeDrawsWrongFalsely : Prop := undertakeDrawsRow.holds Try.pinned (OpenSpec.ofChange undertakeDrawsWrong)

/-- 'supercargolaw34.UndertakeWay': WHATEVER THE INPUT: true; the input reads as it did. -/
def undertakeWaySpec : ChangeSpec := { name := "undertakeWay", fn := fun _ => fun
  | [d1, d2, d3, d4] => { results := [.lit (.bool true)], args := [d1, d2, d3, d4] }
  | _ => none }
def undertakeWayRow : OpenClaim := { program := "ytjabjfkfoenmlaa", sum := "6e75ad10518262f43d9e86df9939449b89b747ab03bb4cd22b0d448c0fa4bf3e", func := "supercargo/supercargolaw34.UndertakeWay", spec := "undertakeWay", unfollowed := true, recurses := true, apart := false }
def UndertakeWaySaid : Prop := undertakeWayRow.holds Try.pinned (OpenSpec.ofChange undertakeWaySpec)

/-- ITS FALSE NEIGHBOUR: 'it returns false'. Refute it at one input. -/
def undertakeWayWrong : ChangeSpec := { name := "undertakeWay", fn := fun _ => fun
  | [d1, d2, d3, d4] => { results := [.lit (.bool false)], args := [d1, d2, d3, d4] }
  | _ => none }
def UndertakeWayWrongFalsely : Prop := undertakeWayRow.holds Try.pinned (OpenSpec.ofChange undertakeWayWrong)

/-- 'supercargolaw34.UndertakeNames': WHATEVER THE INPUT: true; the input reads as it did. -/
def undertakeNamesSpec : ChangeSpec := { name := "undertakeNames", fn := fun _ => fun
  | [d] => { results := [.lit (.bool true)], args := [d] }
  | _ => none }
def undertakeNamesRow : OpenClaim := { program := "ytjabjfkfoenmlaa", sum := "6e75ad10518262f43d9e86df9939449b89b747ab03bb4cd22b0d448c0fa4bf3e", func := "supercargo/supercargolaw34.UndertakeNames", spec := "undertakeNames", unfollowed := true, recurses := true, apart := false }
def UndertakeNamesSaid : Prop := undertakeNamesRow.holds Try.pinned (OpenSpec.ofChange undertakeNamesSpec)

/-- ITS FALSE NEIGHBOUR: 'it returns false'. Refute it at one input. -/
def undertakeNamesWrong : ChangeSpec := { name := "undertakeNames", fn := fun _ => fun
  | [d] => { results := [.lit (.bool false)], args := [d] }
  | _ => none }
def UndertakeNamesWrongFalsely : Prop := undertakeNamesRow.holds Try.pinned (OpenSpec.ofChange undertakeNamesWrong)

/-- 'supercargolaw34.UndertakeNexts': WHATEVER THE INPUT: true; the input reads as it did. -/
def undertakeNextsSpec : ChangeSpec := { name := "undertakeNexts", fn := fun _ => fun
  | [d1, d2, d3, d4, d5] => { results := [.lit (.bool true)], args := [d1, d2, d3, d4, d5] }
  | _ => none }
def undertakeNextsRow : OpenClaim := { program := "ytjabjfkfoenmlaa", sum := "6e75ad10518262f43d9e86df9939449b89b747ab03bb4cd22b0d448c0fa4bf3e", func := "supercargo/supercargolaw34.UndertakeNexts", spec := "undertakeNexts", unfollowed := true, recurses := true, apart := false }
def UndertakeNextsSaid : Prop := undertakeNextsRow.holds Try.pinned (OpenSpec.ofChange undertakeNextsSpec)

/-- ITS FALSE NEIGHBOUR: 'it returns false'. Refute it at one input. -/
def undertakeNextsWrong : ChangeSpec := { name := "undertakeNexts", fn := fun _ => fun
  | [d1, d2, d3, d4, d5] => { results := [.lit (.bool false)], args := [d1, d2, d3, d4, d5] }
  | _ => none }
def UndertakeNextsWrongFalsely : Prop := undertakeNextsRow.holds Try.pinned (OpenSpec.ofChange undertakeNextsWrong)

/-- 'supercargolaw34.UndertakeRuns': WHATEVER THE INPUT: true; the input reads as it did. -/
def undertakeRunsSpec : ChangeSpec := { name := "undertakeRuns", fn := fun _ => fun
  | [d1, d2, d3] => { results := [.lit (.bool true)], args := [d1, d2, d3] }
  | _ => none }
def undertakeRunsRow : OpenClaim := { program := "ytjabjfkfoenmlaa", sum := "6e75ad10518262f43d9e86df9939449b89b747ab03bb4cd22b0d448c0fa4bf3e", func := "supercargo/supercargolaw34.UndertakeRuns", spec := "undertakeRuns", unfollowed := true, recurses := true, apart := false }
def UndertakeRunsSaid : Prop := undertakeRunsRow.holds Try.pinned (OpenSpec.ofChange undertakeRunsSpec)

/-- ITS FALSE NEIGHBOUR: 'it returns false'. Refute it at one input. -/
def undertakeRunsWrong : ChangeSpec := { name := "undertakeRuns", fn := fun _ => fun
  | [d1, d2, d3] => { results := [.lit (.bool false)], args := [d1, d2, d3] }
  | _ => none }
def UndertakeRunsWrongFalsely : Prop := undertakeRunsRow.holds Try.pinned (OpenSpec.ofChange undertakeRunsWrong)

/-- 'supercargolaw34.UndertakeCopies': WHATEVER THE INPUT: true; the input reads as it did. -/
def undertakeCopiesSpec : ChangeSpec := { name := "undertakeCopies", fn := fun _ => fun
  | [d1, d2, d3, d4] => { results := [.lit (.bool true)], args := [d1, d2, d3, d4] }
  | _ => none }
def undertakeCopiesRow : OpenClaim := { program := "ytjabjfkfoenmlaa", sum := "6e75ad10518262f43d9e86df9939449b89b747ab03bb4cd22b0d448c0fa4bf3e", func := "supercargo/supercargolaw34.UndertakeCopies", spec := "undertakeCopies", unfollowed := true, recurses := true, apart := false }
def UndertakeCopiesSaid : Prop := undertakeCopiesRow.holds Try.pinned (OpenSpec.ofChange undertakeCopiesSpec)

/-- ITS FALSE NEIGHBOUR: 'it returns false'. Refute it at one input. -/
def undertakeCopiesWrong : ChangeSpec := { name := "undertakeCopies", fn := fun _ => fun
  | [d1, d2, d3, d4] => { results := [.lit (.bool false)], args := [d1, d2, d3, d4] }
  | _ => none }
def UndertakeCopiesWrongFalsely : Prop := undertakeCopiesRow.holds Try.pinned (OpenSpec.ofChange undertakeCopiesWrong)

/- THE SECOND FORM. 'bulk': how many values and letters a reading holds, each counted each time it is reached (what is shared counts as often as it is met; a slice's spare places count too). A statement '..UptoSaid' is the law's where the arguments, and the package variables that the reading takes, are together of bulk at most 1048576: NARROWER than '..Said'. Prove '..Said' where nothing that the law and all that it calls make is longer than what came in: it says more and counts as full. Else prove '..UptoSaid'. A law counts once. -/
mutual
def uptoBulk {H : Type} : DataW H → Nat
  | .lit (.string bytes) => bytes.length + 1
  | .lit _ => 1
  | .nil => 1
  | .ptr d => uptoBulk d + 1
  | .slice elems spare => uptoBulkAll elems + uptoBulkAll spare + 1
  | .agg parts => uptoBulkAll parts + 1
  | .iface _ d => uptoBulk d + 1
  | .map entries => uptoBulkEntries entries + 1
  | .held _ => 1
def uptoBulkAll {H : Type} : List (DataW H) → Nat
  | [] => 0
  | d :: r => uptoBulk d + uptoBulkAll r
def uptoBulkEntries {H : Type} : List (Lit × DataW H) → Nat
  | [] => 0
  | x :: r => uptoBulkEntry x + uptoBulkEntries r
def uptoBulkEntry {H : Type} : Lit × DataW H → Nat
  | (.string bytes, d) => bytes.length + uptoBulk d + 1
  | (_, d) => uptoBulk d + 1
 end
def uptoSmall : (H : Type) → List (DataW H) → Bool := fun _ ds => decide (uptoBulkAll ds ≤ 1048576)
def OpenSpec.upto (s : _root_.Go.ChangeSpec) : _root_.Go.OpenSpec := { _root_.Go.OpenSpec.ofChange s with cond := some uptoSmall }

/-- 'supercargolaw34.UndertakeOwes', WHERE WHAT IT READS IS OF BULK AT MOST 1048576: true; the input reads as it did. -/
def undertakeOwesUptoRow : OpenClaim := { program := "ytjabjfkfoenmlaa", sum := "6e75ad10518262f43d9e86df9939449b89b747ab03bb4cd22b0d448c0fa4bf3e", func := "supercargo/supercargolaw34.UndertakeOwes", spec := "undertakeOwes", unfollowed := true, recurses := true, apart := false, narrowed := true }
def UndertakeOwesUptoSaid : Prop := undertakeOwesUptoRow.holds Try.pinned (OpenSpec.upto undertakeOwesSpec)

/-- 'supercargolaw34.UndertakeDraws', WHERE WHAT IT READS IS OF BULK AT MOST 1048576: true; the input reads as it did. -/
def undertakeDrawsUptoRow : OpenClaim := { program := "ytjabjfkfoenmlaa", sum := "6e75ad10518262f43d9e86df9939449b89b747ab03bb4cd22b0d448c0fa4bf3e", func := "supercargo/supercargolaw34.UndertakeDraws", spec := "undertakeDraws", unfollowed := true, recurses := true, apart := false, narrowed := true }
def UndertakeDrawsUptoSaid : Prop := undertakeDrawsUptoRow.holds Try.pinned (OpenSpec.upto undertakeDrawsSpec)

/-- 'supercargolaw34.UndertakeWay', WHERE WHAT IT READS IS OF BULK AT MOST 1048576: true; the input reads as it did. -/
def undertakeWayUptoRow : OpenClaim := { program := "ytjabjfkfoenmlaa", sum := "6e75ad10518262f43d9e86df9939449b89b747ab03bb4cd22b0d448c0fa4bf3e", func := "supercargo/supercargolaw34.UndertakeWay", spec := "undertakeWay", unfollowed := true, recurses := true, apart := false, narrowed := true }
def UndertakeWayUptoSaid : Prop := undertakeWayUptoRow.holds Try.pinned (OpenSpec.upto undertakeWaySpec)

/-- 'supercargolaw34.UndertakeNames', WHERE WHAT IT READS IS OF BULK AT MOST 1048576: true; the input reads as it did. -/
def undertakeNamesUptoRow : OpenClaim := { program := "ytjabjfkfoenmlaa", sum := "6e75ad10518262f43d9e86df9939449b89b747ab03bb4cd22b0d448c0fa4bf3e", func := "supercargo/supercargolaw34.UndertakeNames", spec := "undertakeNames", unfollowed := true, recurses := true, apart := false, narrowed := true }
def UndertakeNamesUptoSaid : Prop := undertakeNamesUptoRow.holds Try.pinned (OpenSpec.upto undertakeNamesSpec)

/-- 'supercargolaw34.UndertakeNexts', WHERE WHAT IT READS IS OF BULK AT MOST 1048576: true; the input reads as it did. -/
def undertakeNextsUptoRow : OpenClaim := { program := "ytjabjfkfoenmlaa", sum := "6e75ad10518262f43d9e86df9939449b89b747ab03bb4cd22b0d448c0fa4bf3e", func := "supercargo/supercargolaw34.UndertakeNexts", spec := "undertakeNexts", unfollowed := true, recurses := true, apart := false, narrowed := true }
def UndertakeNextsUptoSaid : Prop := undertakeNextsUptoRow.holds Try.pinned (OpenSpec.upto undertakeNextsSpec)

/-- 'supercargolaw34.UndertakeRuns', WHERE WHAT IT READS IS OF BULK AT MOST 1048576: true; the input reads as it did. -/
def undertakeRunsUptoRow : OpenClaim := { program := "ytjabjfkfoenmlaa", sum := "6e75ad10518262f43d9e86df9939449b89b747ab03bb4cd22b0d448c0fa4bf3e", func := "supercargo/supercargolaw34.UndertakeRuns", spec := "undertakeRuns", unfollowed := true, recurses := true, apart := false, narrowed := true }
def UndertakeRunsUptoSaid : Prop := undertakeRunsUptoRow.holds Try.pinned (OpenSpec.upto undertakeRunsSpec)

/-- 'supercargolaw34.UndertakeCopies', WHERE WHAT IT READS IS OF BULK AT MOST 1048576: true; the input reads as it did. -/
def undertakeCopiesUptoRow : OpenClaim := { program := "ytjabjfkfoenmlaa", sum := "6e75ad10518262f43d9e86df9939449b89b747ab03bb4cd22b0d448c0fa4bf3e", func := "supercargo/supercargolaw34.UndertakeCopies", spec := "undertakeCopies", unfollowed := true, recurses := true, apart := false, narrowed := true }
def UndertakeCopiesUptoSaid : Prop := undertakeCopiesUptoRow.holds Try.pinned (OpenSpec.upto undertakeCopiesSpec)

end Rows
end Go.Proofs.Ytjabjfkfoenmlaa
