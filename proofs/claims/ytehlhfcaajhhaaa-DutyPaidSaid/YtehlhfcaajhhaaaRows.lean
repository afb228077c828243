/-
  No cell of these rows narrows 'for every input' (looked for: loops, veiled, ifaces, maps, wideKeys, modest, calm, conditions, laid).
  DERIVED. THE GIVEN ROWS OF THIS SEAT. 6 by the template 'for every input the law returns true; each argument reads behind the call as it read before'; 0 by the template 'total and deterministic' (their statements: YtehlhfcaajhhaaaTotals.lean).
  GIVEN WITH THE SEED: the statements are not yours to turn. If you find one false, say at which input.
  Laid BY PROGRAM, IN A SANDBOX (cutbox-rows.mjs): the forced cells as the released guide's own fill.sh prints them over the translation daffb29c4de20ea9… (all of the seat's roots in one cut). By AI agents, Wed Nov 11 2026. No macro, syntax, notation, axiom, sorry.
-/
import Derived.Test.YtehlhfcaajhhaaaChecked
import GoSem.Claim
import GoSem.ClaimJoined
import GoSem.ClaimMapViews
import Derived.JoinedTies
import Derived.KernelRfl
namespace Go.Proofs.Ytehlhfcaajhhaaa
/- THE CELL 'sum', in the pinned program and in every row, IS THE sha256 OF THE DUMP (.gsa) THAT YtehlhfcaajhhaaaProg.lean LOADS. Nothing in Lean hashes anything: it is a label: what it is worth is what the hold of that sum in a sandbox is worth. -/
noncomputable def Try.pinned : Pinned := { name := "ytehlhfcaajhhaaa", sum := "daffb29c4de20ea9a7b76007b214ab0c2bb9d3cf812e0fd06dc870b4c6d867a9", checked := Try.checked }
namespace Rows
def none {H : Type} : Left H := { results := [], args := [] }

/-- 'supercargolaw45.DutyTells': WHATEVER THE INPUT: true; the input reads as it did. -/
def dutyTellsSpec : ChangeSpec := { name := "dutyTells", fn := fun _ => fun
  | [d1, d2, d3, d4] => { results := [.lit (.bool true)], args := [d1, d2, d3, d4] }
  | _ => none }
def dutyTellsRow : OpenClaim := { program := "ytehlhfcaajhhaaa", sum := "daffb29c4de20ea9a7b76007b214ab0c2bb9d3cf812e0fd06dc870b4c6d867a9", func := "supercargo/supercargolaw45.DutyTells", spec := "dutyTells", unfollowed := true, recurses := true, named := ["math/bits.divideError", "math/bits.overflowError"], plainKeys := false, apart := false }
def DutyTellsSaid : Prop := dutyTellsRow.holds Try.pinned (OpenSpec.ofChange dutyTellsSpec)

/-- ITS FALSE NEIGHBOUR: 'it returns false'. Refute it at one input. -/
def dutyTellsWrong : ChangeSpec := { name := "dutyTells", fn := fun _ => fun
  | [d1, d2, d3, d4] => { results := [.lit (.bool false)], args := [d1, d2, d3, d4] }
  | _ => none }
def DutyTellsWrongFalsely : Prop := dutyTellsRow.holds Try.pinned (OpenSpec.ofChange dutyTellsWrong)

/-- 'supercargolaw45.DutyGrows': WHATEVER THE INPUT: true; the input reads as it did. -/
def dutyGrowsSpec : ChangeSpec := { name := "dutyGrows", fn := fun _ => fun
  | [d1, d2, d3, d4, d5] => { results := [.lit (.bool true)], args := [d1, d2, d3, d4, d5] }
  | _ => none }
def dutyGrowsRow : OpenClaim := { program := "ytehlhfcaajhhaaa", sum := "daffb29c4de20ea9a7b76007b214ab0c2bb9d3cf812e0fd06dc870b4c6d867a9", func := "supercargo/supercargolaw45.DutyGrows", spec := "dutyGrows", unfollowed := true, recurses := true, named := ["math/bits.divideError", "math/bits.overflowError"], plainKeys := false, apart := false }
def DutyGrowsSaid : Prop := dutyGrowsRow.holds Try.pinned (OpenSpec.ofChange dutyGrowsSpec)

/-- ITS FALSE NEIGHBOUR: 'it returns false'. Refute it at one input. -/
def dutyGrowsWrong : ChangeSpec := { name := "dutyGrows", fn := fun _ => fun
  | [d1, d2, d3, d4, d5] => { results := [.lit (.bool false)], args := [d1, d2, d3, d4, d5] }
  | _ => none }
def DutyGrowsWrongFalsely : Prop := dutyGrowsRow.holds Try.pinned (OpenSpec.ofChange dutyGrowsWrong)

/-- 'supercargolaw45.DutyPaid': WHATEVER THE INPUT: true; the input reads as it did. -/
def dutyPaidSpec : ChangeSpec := { name := "dutyPaid", fn := fun _ => fun
  | [d1, d2, d3, d4] => { results := [.lit (.bool true)], args := [d1, d2, d3, d4] }
  | _ => none }
def dutyPaidRow : OpenClaim := { program := "ytehlhfcaajhhaaa", sum := "daffb29c4de20ea9a7b76007b214ab0c2bb9d3cf812e0fd06dc870b4c6d867a9", func := "supercargo/supercargolaw45.DutyPaid", spec := "dutyPaid", unfollowed := true, recurses := true, named := ["math/bits.divideError", "math/bits.overflowError"], plainKeys := false, apart := false }
def DutyPaidSaid : Prop := dutyPaidRow.holds Try.pinned (OpenSpec.ofChange dutyPaidSpec)

/-- ITS FALSE NEIGHBOUR: 'it returns false'. Refute it at one input. -/
def dutyPaidWrong : ChangeSpec := { name := "dutyPaid", fn := fun _ => fun
  | [d1, d2, d3, d4] => { results := [.lit (.bool false)], args := [d1, d2, d3, d4] }
  | _ => none }
def DutyPaidWrongFalsely : Prop := dutyPaidRow.holds Try.pinned (OpenSpec.ofChange dutyPaidWrong)

/-- 'supercargolaw45.DutyLimits': WHATEVER THE INPUT: true; the input reads as it did. -/
def dutyLimitsSpec : ChangeSpec := { name := "dutyLimits", fn := fun _ => fun
  | [d1, d2, d3] => { results := [.lit (.bool true)], args := [d1, d2, d3] }
  | _ => none }
def dutyLimitsRow : OpenClaim := { program := "ytehlhfcaajhhaaa", sum := "daffb29c4de20ea9a7b76007b214ab0c2bb9d3cf812e0fd06dc870b4c6d867a9", func := "supercargo/supercargolaw45.DutyLimits", spec := "dutyLimits", unfollowed := true, recurses := true, named := ["math/bits.divideError", "math/bits.overflowError"], plainKeys := false, apart := false }
def DutyLimitsSaid : Prop := dutyLimitsRow.holds Try.pinned (OpenSpec.ofChange dutyLimitsSpec)

/-- ITS FALSE NEIGHBOUR: 'it returns false'. Refute it at one input. -/
def dutyLimitsWrong : ChangeSpec := { name := "dutyLimits", fn := fun _ => fun
  | [d1, d2, d3] => { results := [.lit (.bool false)], args := [d1, d2, d3] }
  | _ => none }
def DutyLimitsWrongFalsely : Prop := dutyLimitsRow.holds Try.pinned (OpenSpec.ofChange dutyLimitsWrong)

/-- 'supercargolaw45.DutyCopies': WHATEVER THE INPUT: true; the input reads as it did. -/
def dutyCopiesSpec : ChangeSpec := { name := "dutyCopies", fn := fun _ => fun
  | [d1, d2, d3] => { results := [.lit (.bool true)], args := [d1, d2, d3] }
  | _ => none }
def dutyCopiesRow : OpenClaim := { program := "ytehlhfcaajhhaaa", sum := "daffb29c4de20ea9a7b76007b214ab0c2bb9d3cf812e0fd06dc870b4c6d867a9", func := "supercargo/supercargolaw45.DutyCopies", spec := "dutyCopies", unfollowed := true, recurses := true, named := ["math/bits.divideError", "math/bits.overflowError"], plainKeys := false, apart := false }
def DutyCopiesSaid : Prop := dutyCopiesRow.holds Try.pinned (OpenSpec.ofChange dutyCopiesSpec)

/-- ITS FALSE NEIGHBOUR: 'it returns false'. Refute it at one input. -/
def dutyCopiesWrong : ChangeSpec := { name := "dutyCopies", fn := fun _ => fun
  | [d1, d2, d3] => { results := [.lit (.bool false)], args := [d1, d2, d3] }
  | _ => none }
def DutyCopiesWrongFalsely : Prop := dutyCopiesRow.holds Try.pinned (OpenSpec.ofChange dutyCopiesWrong)

/-- 'supercargolaw45.DutyPlays': WHATEVER THE INPUT: true; the input reads as it did. -/
def dutyPlaysSpec : ChangeSpec := { name := "dutyPlays", fn := fun _ => fun
  | [d1, d2, d3, d4] => { results := [.lit (.bool true)], args := [d1, d2, d3, d4] }
  | _ => none }
def dutyPlaysRow : OpenClaim := { program := "ytehlhfcaajhhaaa", sum := "daffb29c4de20ea9a7b76007b214ab0c2bb9d3cf812e0fd06dc870b4c6d867a9", func := "supercargo/supercargolaw45.DutyPlays", spec := "dutyPlays", unfollowed := true, recurses := true, named := ["math/bits.divideError", "math/bits.overflowError"], plainKeys := false, apart := false }
def DutyPlaysSaid : Prop := dutyPlaysRow.holds Try.pinned (OpenSpec.ofChange dutyPlaysSpec)

/-- ITS FALSE NEIGHBOUR: 'it returns false'. Refute it at one input. -/
def dutyPlaysWrong : ChangeSpec := { name := "dutyPlays", fn := fun _ => fun
  | [d1, d2, d3, d4] => { results := [.lit (.bool false)], args := [d1, d2, d3, d4] }
  | _ => none }
def DutyPlaysWrongFalsely : Prop := dutyPlaysRow.holds Try.pinned (OpenSpec.ofChange dutyPlaysWrong)

/- THE SECOND FORM. 'bulk': how many values and letters a reading holds, each counted each time it is reached (what is shared counts as often as it is met; a slice's spare places count too). A statement '..UptoSaid' is the law's where the arguments, and the package variables that the reading takes, are together of bulk at most 1048576: NARROWER than '..Said'. Prove '..Said' where nothing that the law and all that it calls make is longer than what came in: it says more and counts as full. Else prove '..UptoSaid'. A law counts once. -/
mutual
def uptoBulk {H : Type} : DataW H → Nat
  | .lit (.string bytes) => bytes.length + 1
  | .lit _ => 1
  | .nil => 1
  | .ptr d => uptoBulk d + 1
  | .slice elems spare => uptoBulkAll elems + uptoBulkAll spare + 1
  | .agg parts => uptoBulkAll parts + 1
  | .iface _ d => uptoBulk d + 1
  | .map entries => uptoBulkEntries entries + 1
  | .held _ => 1
def uptoBulkAll {H : Type} : List (DataW H) → Nat
  | [] => 0
  | d :: r => uptoBulk d + uptoBulkAll r
def uptoBulkEntries {H : Type} : List (Lit × DataW H) → Nat
  | [] => 0
  | x :: r => uptoBulkEntry x + uptoBulkEntries r
def uptoBulkEntry {H : Type} : Lit × DataW H → Nat
  | (.string bytes, d) => bytes.length + uptoBulk d + 1
  | (_, d) => uptoBulk d + 1
 end
def uptoSmall : (H : Type) → List (DataW H) → Bool := fun _ ds => decide (uptoBulkAll ds ≤ 1048576)
def OpenSpec.upto (s : _root_.Go.ChangeSpec) : _root_.Go.OpenSpec := { _root_.Go.OpenSpec.ofChange s with cond := some uptoSmall }

/-- 'supercargolaw45.DutyTells', WHERE WHAT IT READS IS OF BULK AT MOST 1048576: true; the input reads as it did. -/
def dutyTellsUptoRow : OpenClaim := { program := "ytehlhfcaajhhaaa", sum := "daffb29c4de20ea9a7b76007b214ab0c2bb9d3cf812e0fd06dc870b4c6d867a9", func := "supercargo/supercargolaw45.DutyTells", spec := "dutyTells", unfollowed := true, recurses := true, named := ["math/bits.divideError", "math/bits.overflowError"], plainKeys := false, apart := false, narrowed := true }
def DutyTellsUptoSaid : Prop := dutyTellsUptoRow.holds Try.pinned (OpenSpec.upto dutyTellsSpec)

/-- 'supercargolaw45.DutyGrows', WHERE WHAT IT READS IS OF BULK AT MOST 1048576: true; the input reads as it did. -/
def dutyGrowsUptoRow : OpenClaim := { program := "ytehlhfcaajhhaaa", sum := "daffb29c4de20ea9a7b76007b214ab0c2bb9d3cf812e0fd06dc870b4c6d867a9", func := "supercargo/supercargolaw45.DutyGrows", spec := "dutyGrows", unfollowed := true, recurses := true, named := ["math/bits.divideError", "math/bits.overflowError"], plainKeys := false, apart := false, narrowed := true }
def DutyGrowsUptoSaid : Prop := dutyGrowsUptoRow.holds Try.pinned (OpenSpec.upto dutyGrowsSpec)

/-- 'supercargolaw45.DutyPaid', WHERE WHAT IT READS IS OF BULK AT MOST 1048576: true; the input reads as it did. -/
def dutyPaidUptoRow : OpenClaim := { program := "ytehlhfcaajhhaaa", sum := "daffb29c4de20ea9a7b76007b214ab0c2bb9d3cf812e0fd06dc870b4c6d867a9", func := "supercargo/supercargolaw45.DutyPaid", spec := "dutyPaid", unfollowed := true, recurses := true, named := ["math/bits.divideError", "math/bits.overflowError"], plainKeys := false, apart := false, narrowed := true }
def DutyPaidUptoSaid : Prop := dutyPaidUptoRow.holds Try.pinned (OpenSpec.upto dutyPaidSpec)

/-- 'supercargolaw45.DutyLimits', WHERE WHAT IT READS IS OF BULK AT MOST 1048576: true; the input reads as it did. -/
def dutyLimitsUptoRow : OpenClaim := { program := "ytehlhfcaajhhaaa", sum := "daffb29c4de20ea9a7b76007b214ab0c2bb9d3cf812e0fd06dc870b4c6d867a9", func := "supercargo/supercargolaw45.DutyLimits", spec := "dutyLimits", unfollowed := true, recurses := true, named := ["math/bits.divideError", "math/bits.overflowError"], plainKeys := false, apart := false, narrowed := true }
def DutyLimitsUptoSaid : Prop := dutyLimitsUptoRow.holds Try.pinned (OpenSpec.upto dutyLimitsSpec)

/-- 'supercargolaw45.DutyCopies', WHERE WHAT IT READS IS OF BULK AT MOST 1048576: true; the input reads as it did. -/
def dutyCopiesUptoRow : OpenClaim := { program := "ytehlhfcaajhhaaa", sum := "daffb29c4de20ea9a7b76007b214ab0c2bb9d3cf812e0fd06dc870b4c6d867a9", func := "supercargo/supercargolaw45.DutyCopies", spec := "dutyCopies", unfollowed := true, recurses := true, named := ["math/bits.divideError", "math/bits.overflowError"], plainKeys := false, apart := false, narrowed := true }
def DutyCopiesUptoSaid : Prop := dutyCopiesUptoRow.holds Try.pinned (OpenSpec.upto dutyCopiesSpec)

/-- 'supercargolaw45.DutyPlays', WHERE WHAT IT READS IS OF BULK AT MOST 1048576: true; the input reads as it did. -/
def dutyPlaysUptoRow : OpenClaim := { program := "ytehlhfcaajhhaaa", sum := "daffb29c4de20ea9a7b76007b214ab0c2bb9d3cf812e0fd06dc870b4c6d867a9", func := "supercargo/supercargolaw45.DutyPlays", spec := "dutyPlays", unfollowed := true, recurses := true, named := ["math/bits.divideError", "math/bits.overflowError"], plainKeys := false, apart := false, narrowed := true }
def DutyPlaysUptoSaid : Prop := dutyPlaysUptoRow.holds Try.pinned (OpenSpec.upto dutyPlaysSpec)

end Rows
end Go.Proofs.Ytehlhfcaajhhaaa
