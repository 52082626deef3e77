/-
  NARROWER THAN 'FOR EVERY INPUT', by the rows' own cells (each row's printed sentence says how): FnExactPoolSorted: loops · FnExactPoolBarbs: loops.
  DERIVED. THE GIVEN ROWS OF THIS SEAT. 11 by the template 'for every input the law returns true; each argument reads behind the call as it read before'; 0 by the template 'total and deterministic' (their statements: YtlldnglfoajfcaaTotals.lean).
  GIVEN WITH THE SEED: the statements are not yours to turn. If you find one false, say at which input.
  Laid BY PROGRAM, IN A SANDBOX (cutbox-rows.mjs): the forced cells as the released guide's own fill.sh prints them over the translation 715ee458c5fa7f6e… (all of the seat's roots in one cut). By AI agents, Wed Nov 11 2026. No macro, syntax, notation, axiom, sorry.
-/
import Derived.Test.YtlldnglfoajfcaaChecked
import GoSem.Claim
import GoSem.ClaimJoined
import GoSem.ClaimMapViews
import Derived.JoinedTies
import Derived.KernelRfl
namespace Go.Proofs.Ytlldnglfoajfcaa
/- THE CELL 'sum', in the pinned program and in every row, IS THE sha256 OF THE DUMP (.gsa) THAT YtlldnglfoajfcaaProg.lean LOADS. Nothing in Lean hashes anything: it is a label: what it is worth is what the hold of that sum in a sandbox is worth. -/
noncomputable def Try.pinned : Pinned := { name := "ytlldnglfoajfcaa", sum := "715ee458c5fa7f6ef3284cf184a3f7099f9eb61cef12dfaeb0b4bd26bf754e72", checked := Try.checked }
namespace Rows
def none {H : Type} : Left H := { results := [], args := [] }

/-- 'laws.FnExactEquationsTerm': WHATEVER THE INPUT: true; the input reads as it did. -/
def fnExactEquationsTermSpec : ChangeSpec := { name := "fnExactEquationsTerm", fn := fun _ => fun
  | [d1, d2] => { results := [.lit (.bool true)], args := [d1, d2] }
  | _ => none }
def fnExactEquationsTermRow : OpenClaim := { program := "ytlldnglfoajfcaa", sum := "715ee458c5fa7f6ef3284cf184a3f7099f9eb61cef12dfaeb0b4bd26bf754e72", func := "loop.example/mobilenames/laws.FnExactEquationsTerm", spec := "fnExactEquationsTerm", unfollowed := true, recurses := true, apart := false }
def FnExactEquationsTermSaid : Prop := fnExactEquationsTermRow.holds Try.pinned (OpenSpec.ofChange fnExactEquationsTermSpec)

/-- ITS FALSE NEIGHBOUR: 'it returns false'. Refute it at one input. -/
def fnExactEquationsTermWrong : ChangeSpec := { name := "fnExactEquationsTerm", fn := fun _ => fun
  | [d1, d2] => { results := [.lit (.bool false)], args := [d1, d2] }
  | _ => none }
def FnExactEquationsTermWrongFalsely : Prop := fnExactEquationsTermRow.holds Try.pinned (OpenSpec.ofChange fnExactEquationsTermWrong)

/-- 'laws.FnExactPoolSorted': WHATEVER THE INPUT: true; the input reads as it did. -/
def fnExactPoolSortedSpec : ChangeSpec := { name := "fnExactPoolSorted", fn := fun _ => fun
  | [d1, d2, d3] => { results := [.lit (.bool true)], args := [d1, d2, d3] }
  | _ => none }
def fnExactPoolSortedRow : OpenClaim := { program := "ytlldnglfoajfcaa", sum := "715ee458c5fa7f6ef3284cf184a3f7099f9eb61cef12dfaeb0b4bd26bf754e72", func := "loop.example/mobilenames/laws.FnExactPoolSorted", spec := "fnExactPoolSorted", unfollowed := true, recurses := true, loops := true, apart := false }
def FnExactPoolSortedSaid : Prop := fnExactPoolSortedRow.holds Try.pinned (OpenSpec.ofChange fnExactPoolSortedSpec)

/-- ITS FALSE NEIGHBOUR: 'it returns false'. Refute it at one input. -/
def fnExactPoolSortedWrong : ChangeSpec := { name := "fnExactPoolSorted", fn := fun _ => fun
  | [d1, d2, d3] => { results := [.lit (.bool false)], args := [d1, d2, d3] }
  | _ => none }
def FnExactPoolSortedWrongFalsely : Prop := fnExactPoolSortedRow.holds Try.pinned (OpenSpec.ofChange fnExactPoolSortedWrong)

/-- 'laws.FnExactGraphAct': WHATEVER THE INPUT: true; the input reads as it did. -/
def fnExactGraphActSpec : ChangeSpec := { name := "fnExactGraphAct", fn := fun _ => fun
  | [d1, d2] => { results := [.lit (.bool true)], args := [d1, d2] }
  | _ => none }
def fnExactGraphActRow : OpenClaim := { program := "ytlldnglfoajfcaa", sum := "715ee458c5fa7f6ef3284cf184a3f7099f9eb61cef12dfaeb0b4bd26bf754e72", func := "loop.example/mobilenames/laws.FnExactGraphAct", spec := "fnExactGraphAct", unfollowed := true, recurses := true, apart := false }
def FnExactGraphActSaid : Prop := fnExactGraphActRow.holds Try.pinned (OpenSpec.ofChange fnExactGraphActSpec)

/-- ITS FALSE NEIGHBOUR: 'it returns false'. Refute it at one input. -/
def fnExactGraphActWrong : ChangeSpec := { name := "fnExactGraphAct", fn := fun _ => fun
  | [d1, d2] => { results := [.lit (.bool false)], args := [d1, d2] }
  | _ => none }
def FnExactGraphActWrongFalsely : Prop := fnExactGraphActRow.holds Try.pinned (OpenSpec.ofChange fnExactGraphActWrong)

/-- 'laws.FnExactGraphSum': WHATEVER THE INPUT: true; the input reads as it did. -/
def fnExactGraphSumSpec : ChangeSpec := { name := "fnExactGraphSum", fn := fun _ => fun
  | [d1, d2] => { results := [.lit (.bool true)], args := [d1, d2] }
  | _ => none }
def fnExactGraphSumRow : OpenClaim := { program := "ytlldnglfoajfcaa", sum := "715ee458c5fa7f6ef3284cf184a3f7099f9eb61cef12dfaeb0b4bd26bf754e72", func := "loop.example/mobilenames/laws.FnExactGraphSum", spec := "fnExactGraphSum", unfollowed := true, recurses := true, apart := false }
def FnExactGraphSumSaid : Prop := fnExactGraphSumRow.holds Try.pinned (OpenSpec.ofChange fnExactGraphSumSpec)

/-- ITS FALSE NEIGHBOUR: 'it returns false'. Refute it at one input. -/
def fnExactGraphSumWrong : ChangeSpec := { name := "fnExactGraphSum", fn := fun _ => fun
  | [d1, d2] => { results := [.lit (.bool false)], args := [d1, d2] }
  | _ => none }
def FnExactGraphSumWrongFalsely : Prop := fnExactGraphSumRow.holds Try.pinned (OpenSpec.ofChange fnExactGraphSumWrong)

/-- 'laws.FnExactGraphHide': WHATEVER THE INPUT: true; the input reads as it did. -/
def fnExactGraphHideSpec : ChangeSpec := { name := "fnExactGraphHide", fn := fun _ => fun
  | [d1, d2] => { results := [.lit (.bool true)], args := [d1, d2] }
  | _ => none }
def fnExactGraphHideRow : OpenClaim := { program := "ytlldnglfoajfcaa", sum := "715ee458c5fa7f6ef3284cf184a3f7099f9eb61cef12dfaeb0b4bd26bf754e72", func := "loop.example/mobilenames/laws.FnExactGraphHide", spec := "fnExactGraphHide", unfollowed := true, recurses := true, apart := false }
def FnExactGraphHideSaid : Prop := fnExactGraphHideRow.holds Try.pinned (OpenSpec.ofChange fnExactGraphHideSpec)

/-- ITS FALSE NEIGHBOUR: 'it returns false'. Refute it at one input. -/
def fnExactGraphHideWrong : ChangeSpec := { name := "fnExactGraphHide", fn := fun _ => fun
  | [d1, d2] => { results := [.lit (.bool false)], args := [d1, d2] }
  | _ => none }
def FnExactGraphHideWrongFalsely : Prop := fnExactGraphHideRow.holds Try.pinned (OpenSpec.ofChange fnExactGraphHideWrong)

/-- 'laws.FnExactEquationsSolve': WHATEVER THE INPUT: true; the input reads as it did. -/
def fnExactEquationsSolveSpec : ChangeSpec := { name := "fnExactEquationsSolve", fn := fun _ => fun
  | [d1, d2, d3] => { results := [.lit (.bool true)], args := [d1, d2, d3] }
  | _ => none }
def fnExactEquationsSolveRow : OpenClaim := { program := "ytlldnglfoajfcaa", sum := "715ee458c5fa7f6ef3284cf184a3f7099f9eb61cef12dfaeb0b4bd26bf754e72", func := "loop.example/mobilenames/laws.FnExactEquationsSolve", spec := "fnExactEquationsSolve", unfollowed := true, recurses := true, apart := false }
def FnExactEquationsSolveSaid : Prop := fnExactEquationsSolveRow.holds Try.pinned (OpenSpec.ofChange fnExactEquationsSolveSpec)

/-- ITS FALSE NEIGHBOUR: 'it returns false'. Refute it at one input. -/
def fnExactEquationsSolveWrong : ChangeSpec := { name := "fnExactEquationsSolve", fn := fun _ => fun
  | [d1, d2, d3] => { results := [.lit (.bool false)], args := [d1, d2, d3] }
  | _ => none }
def FnExactEquationsSolveWrongFalsely : Prop := fnExactEquationsSolveRow.holds Try.pinned (OpenSpec.ofChange fnExactEquationsSolveWrong)

/-- 'laws.FnExactGraphPar': WHATEVER THE INPUT: true; the input reads as it did. -/
def fnExactGraphParSpec : ChangeSpec := { name := "fnExactGraphPar", fn := fun _ => fun
  | [d1, d2] => { results := [.lit (.bool true)], args := [d1, d2] }
  | _ => none }
def fnExactGraphParRow : OpenClaim := { program := "ytlldnglfoajfcaa", sum := "715ee458c5fa7f6ef3284cf184a3f7099f9eb61cef12dfaeb0b4bd26bf754e72", func := "loop.example/mobilenames/laws.FnExactGraphPar", spec := "fnExactGraphPar", unfollowed := true, recurses := true, apart := false }
def FnExactGraphParSaid : Prop := fnExactGraphParRow.holds Try.pinned (OpenSpec.ofChange fnExactGraphParSpec)

/-- ITS FALSE NEIGHBOUR: 'it returns false'. Refute it at one input. -/
def fnExactGraphParWrong : ChangeSpec := { name := "fnExactGraphPar", fn := fun _ => fun
  | [d1, d2] => { results := [.lit (.bool false)], args := [d1, d2] }
  | _ => none }
def FnExactGraphParWrongFalsely : Prop := fnExactGraphParRow.holds Try.pinned (OpenSpec.ofChange fnExactGraphParWrong)

/-- 'laws.FnExactGraphVeil': WHATEVER THE INPUT: true; the input reads as it did. -/
def fnExactGraphVeilSpec : ChangeSpec := { name := "fnExactGraphVeil", fn := fun _ => fun
  | [d1, d2] => { results := [.lit (.bool true)], args := [d1, d2] }
  | _ => none }
def fnExactGraphVeilRow : OpenClaim := { program := "ytlldnglfoajfcaa", sum := "715ee458c5fa7f6ef3284cf184a3f7099f9eb61cef12dfaeb0b4bd26bf754e72", func := "loop.example/mobilenames/laws.FnExactGraphVeil", spec := "fnExactGraphVeil", unfollowed := true, recurses := true, apart := false }
def FnExactGraphVeilSaid : Prop := fnExactGraphVeilRow.holds Try.pinned (OpenSpec.ofChange fnExactGraphVeilSpec)

/-- ITS FALSE NEIGHBOUR: 'it returns false'. Refute it at one input. -/
def fnExactGraphVeilWrong : ChangeSpec := { name := "fnExactGraphVeil", fn := fun _ => fun
  | [d1, d2] => { results := [.lit (.bool false)], args := [d1, d2] }
  | _ => none }
def FnExactGraphVeilWrongFalsely : Prop := fnExactGraphVeilRow.holds Try.pinned (OpenSpec.ofChange fnExactGraphVeilWrong)

/-- 'laws.FnExactEquationsFind': WHATEVER THE INPUT: true; the input reads as it did. -/
def fnExactEquationsFindSpec : ChangeSpec := { name := "fnExactEquationsFind", fn := fun _ => fun
  | [d1, d2] => { results := [.lit (.bool true)], args := [d1, d2] }
  | _ => none }
def fnExactEquationsFindRow : OpenClaim := { program := "ytlldnglfoajfcaa", sum := "715ee458c5fa7f6ef3284cf184a3f7099f9eb61cef12dfaeb0b4bd26bf754e72", func := "loop.example/mobilenames/laws.FnExactEquationsFind", spec := "fnExactEquationsFind", unfollowed := true, recurses := true, apart := false }
def FnExactEquationsFindSaid : Prop := fnExactEquationsFindRow.holds Try.pinned (OpenSpec.ofChange fnExactEquationsFindSpec)

/-- ITS FALSE NEIGHBOUR: 'it returns false'. Refute it at one input. -/
def fnExactEquationsFindWrong : ChangeSpec := { name := "fnExactEquationsFind", fn := fun _ => fun
  | [d1, d2] => { results := [.lit (.bool false)], args := [d1, d2] }
  | _ => none }
def FnExactEquationsFindWrongFalsely : Prop := fnExactEquationsFindRow.holds Try.pinned (OpenSpec.ofChange fnExactEquationsFindWrong)

/-- 'laws.FnExactGraphSync': WHATEVER THE INPUT: true; the input reads as it did. -/
def fnExactGraphSyncSpec : ChangeSpec := { name := "fnExactGraphSync", fn := fun _ => fun
  | [d1, d2, d3] => { results := [.lit (.bool true)], args := [d1, d2, d3] }
  | _ => none }
def fnExactGraphSyncRow : OpenClaim := { program := "ytlldnglfoajfcaa", sum := "715ee458c5fa7f6ef3284cf184a3f7099f9eb61cef12dfaeb0b4bd26bf754e72", func := "loop.example/mobilenames/laws.FnExactGraphSync", spec := "fnExactGraphSync", unfollowed := true, recurses := true, apart := false }
def FnExactGraphSyncSaid : Prop := fnExactGraphSyncRow.holds Try.pinned (OpenSpec.ofChange fnExactGraphSyncSpec)

/-- ITS FALSE NEIGHBOUR: 'it returns false'. Refute it at one input. -/
def fnExactGraphSyncWrong : ChangeSpec := { name := "fnExactGraphSync", fn := fun _ => fun
  | [d1, d2, d3] => { results := [.lit (.bool false)], args := [d1, d2, d3] }
  | _ => none }
def FnExactGraphSyncWrongFalsely : Prop := fnExactGraphSyncRow.holds Try.pinned (OpenSpec.ofChange fnExactGraphSyncWrong)

/-- 'laws.FnExactPoolBarbs': WHATEVER THE INPUT: true; the input reads as it did. -/
def fnExactPoolBarbsSpec : ChangeSpec := { name := "fnExactPoolBarbs", fn := fun _ => fun
  | [d] => { results := [.lit (.bool true)], args := [d] }
  | _ => none }
def fnExactPoolBarbsRow : OpenClaim := { program := "ytlldnglfoajfcaa", sum := "715ee458c5fa7f6ef3284cf184a3f7099f9eb61cef12dfaeb0b4bd26bf754e72", func := "loop.example/mobilenames/laws.FnExactPoolBarbs", spec := "fnExactPoolBarbs", unfollowed := true, recurses := true, loops := true, apart := false }
def FnExactPoolBarbsSaid : Prop := fnExactPoolBarbsRow.holds Try.pinned (OpenSpec.ofChange fnExactPoolBarbsSpec)

/-- ITS FALSE NEIGHBOUR: 'it returns false'. Refute it at one input. -/
def fnExactPoolBarbsWrong : ChangeSpec := { name := "fnExactPoolBarbs", fn := fun _ => fun
  | [d] => { results := [.lit (.bool false)], args := [d] }
  | _ => none }
def FnExactPoolBarbsWrongFalsely : Prop := fnExactPoolBarbsRow.holds Try.pinned (OpenSpec.ofChange fnExactPoolBarbsWrong)

/- THE SECOND FORM. 'bulk': how many values and letters a reading holds, each counted each time it is reached (what is shared counts as often as it is met; a slice's spare places count too). A statement '..UptoSaid' is the law's where the arguments, and the package variables that the reading takes, are together of bulk at most 1048576: NARROWER than '..Said'. Prove '..Said' where nothing that the law and all that it calls make is longer than what came in: it says more and counts as full. Else prove '..UptoSaid'. A law counts once. -/
mutual
def uptoBulk {H : Type} : DataW H → Nat
  | .lit (.string bytes) => bytes.length + 1
  | .lit _ => 1
  | .nil => 1
  | .ptr d => uptoBulk d + 1
  | .slice elems spare => uptoBulkAll elems + uptoBulkAll spare + 1
  | .agg parts => uptoBulkAll parts + 1
  | .iface _ d => uptoBulk d + 1
  | .map entries => uptoBulkEntries entries + 1
  | .held _ => 1
def uptoBulkAll {H : Type} : List (DataW H) → Nat
  | [] => 0
  | d :: r => uptoBulk d + uptoBulkAll r
def uptoBulkEntries {H : Type} : List (Lit × DataW H) → Nat
  | [] => 0
  | x :: r => uptoBulkEntry x + uptoBulkEntries r
def uptoBulkEntry {H : Type} : Lit × DataW H → Nat
  | (.string bytes, d) => bytes.length + uptoBulk d + 1
  | (_, d) => uptoBulk d + 1
 end
def uptoSmall : (H : Type) → List (DataW H) → Bool := fun _ ds => decide (uptoBulkAll ds ≤ 1048576)
def OpenSpec.upto (s : _root_.Go.ChangeSpec) : _root_.Go.OpenSpec := { _root_.Go.OpenSpec.ofChange s with cond := some uptoSmall }

/-- 'laws.FnExactEquationsTerm', WHERE WHAT IT READS IS OF BULK AT MOST 1048576: true; the input reads as it did. -/
def fnExactEquationsTermUptoRow : OpenClaim := { program := "ytlldnglfoajfcaa", sum := "715ee458c5fa7f6ef3284cf184a3f7099f9eb61cef12dfaeb0b4bd26bf754e72", func := "loop.example/mobilenames/laws.FnExactEquationsTerm", spec := "fnExactEquationsTerm", unfollowed := true, recurses := true, apart := false, narrowed := true }
def FnExactEquationsTermUptoSaid : Prop := fnExactEquationsTermUptoRow.holds Try.pinned (OpenSpec.upto fnExactEquationsTermSpec)

/-- 'laws.FnExactPoolSorted', WHERE WHAT IT READS IS OF BULK AT MOST 1048576: true; the input reads as it did. -/
def fnExactPoolSortedUptoRow : OpenClaim := { program := "ytlldnglfoajfcaa", sum := "715ee458c5fa7f6ef3284cf184a3f7099f9eb61cef12dfaeb0b4bd26bf754e72", func := "loop.example/mobilenames/laws.FnExactPoolSorted", spec := "fnExactPoolSorted", unfollowed := true, recurses := true, loops := true, apart := false, narrowed := true }
def FnExactPoolSortedUptoSaid : Prop := fnExactPoolSortedUptoRow.holds Try.pinned (OpenSpec.upto fnExactPoolSortedSpec)

/-- 'laws.FnExactGraphAct', WHERE WHAT IT READS IS OF BULK AT MOST 1048576: true; the input reads as it did. -/
def fnExactGraphActUptoRow : OpenClaim := { program := "ytlldnglfoajfcaa", sum := "715ee458c5fa7f6ef3284cf184a3f7099f9eb61cef12dfaeb0b4bd26bf754e72", func := "loop.example/mobilenames/laws.FnExactGraphAct", spec := "fnExactGraphAct", unfollowed := true, recurses := true, apart := false, narrowed := true }
def FnExactGraphActUptoSaid : Prop := fnExactGraphActUptoRow.holds Try.pinned (OpenSpec.upto fnExactGraphActSpec)

/-- 'laws.FnExactGraphSum', WHERE WHAT IT READS IS OF BULK AT MOST 1048576: true; the input reads as it did. -/
def fnExactGraphSumUptoRow : OpenClaim := { program := "ytlldnglfoajfcaa", sum := "715ee458c5fa7f6ef3284cf184a3f7099f9eb61cef12dfaeb0b4bd26bf754e72", func := "loop.example/mobilenames/laws.FnExactGraphSum", spec := "fnExactGraphSum", unfollowed := true, recurses := true, apart := false, narrowed := true }
def FnExactGraphSumUptoSaid : Prop := fnExactGraphSumUptoRow.holds Try.pinned (OpenSpec.upto fnExactGraphSumSpec)

/-- 'laws.FnExactGraphHide', WHERE WHAT IT READS IS OF BULK AT MOST 1048576: true; the input reads as it did. -/
def fnExactGraphHideUptoRow : OpenClaim := { program := "ytlldnglfoajfcaa", sum := "715ee458c5fa7f6ef3284cf184a3f7099f9eb61cef12dfaeb0b4bd26bf754e72", func := "loop.example/mobilenames/laws.FnExactGraphHide", spec := "fnExactGraphHide", unfollowed := true, recurses := true, apart := false, narrowed := true }
def FnExactGraphHideUptoSaid : Prop := fnExactGraphHideUptoRow.holds Try.pinned (OpenSpec.upto fnExactGraphHideSpec)

/-- 'laws.FnExactEquationsSolve', WHERE WHAT IT READS IS OF BULK AT MOST 1048576: true; the input reads as it did. -/
def fnExactEquationsSolveUptoRow : OpenClaim := { program := "ytlldnglfoajfcaa", sum := "715ee458c5fa7f6ef3284cf184a3f7099f9eb61cef12dfaeb0b4bd26bf754e72", func := "loop.example/mobilenames/laws.FnExactEquationsSolve", spec := "fnExactEquationsSolve", unfollowed := true, recurses := true, apart := false, narrowed := true }
def FnExactEquationsSolveUptoSaid : Prop := fnExactEquationsSolveUptoRow.holds Try.pinned (OpenSpec.upto fnExactEquationsSolveSpec)

/-- 'laws.FnExactGraphPar', WHERE WHAT IT READS IS OF BULK AT MOST 1048576: true; the input reads as it did. -/
def fnExactGraphParUptoRow : OpenClaim := { program := "ytlldnglfoajfcaa", sum := "715ee458c5fa7f6ef3284cf184a3f7099f9eb61cef12dfaeb0b4bd26bf754e72", func := "loop.example/mobilenames/laws.FnExactGraphPar", spec := "fnExactGraphPar", unfollowed := true, recurses := true, apart := false, narrowed := true }
def FnExactGraphParUptoSaid : Prop := fnExactGraphParUptoRow.holds Try.pinned (OpenSpec.upto fnExactGraphParSpec)

/-- 'laws.FnExactGraphVeil', WHERE WHAT IT READS IS OF BULK AT MOST 1048576: true; the input reads as it did. -/
def fnExactGraphVeilUptoRow : OpenClaim := { program := "ytlldnglfoajfcaa", sum := "715ee458c5fa7f6ef3284cf184a3f7099f9eb61cef12dfaeb0b4bd26bf754e72", func := "loop.example/mobilenames/laws.FnExactGraphVeil", spec := "fnExactGraphVeil", unfollowed := true, recurses := true, apart := false, narrowed := true }
def FnExactGraphVeilUptoSaid : Prop := fnExactGraphVeilUptoRow.holds Try.pinned (OpenSpec.upto fnExactGraphVeilSpec)

/-- 'laws.FnExactEquationsFind', WHERE WHAT IT READS IS OF BULK AT MOST 1048576: true; the input reads as it did. -/
def fnExactEquationsFindUptoRow : OpenClaim := { program := "ytlldnglfoajfcaa", sum := "715ee458c5fa7f6ef3284cf184a3f7099f9eb61cef12dfaeb0b4bd26bf754e72", func := "loop.example/mobilenames/laws.FnExactEquationsFind", spec := "fnExactEquationsFind", unfollowed := true, recurses := true, apart := false, narrowed := true }
def FnExactEquationsFindUptoSaid : Prop := fnExactEquationsFindUptoRow.holds Try.pinned (OpenSpec.upto fnExactEquationsFindSpec)

/-- 'laws.FnExactGraphSync', WHERE WHAT IT READS IS OF BULK AT MOST 1048576: true; the input reads as it did. -/
def fnExactGraphSyncUptoRow : OpenClaim := { program := "ytlldnglfoajfcaa", sum := "715ee458c5fa7f6ef3284cf184a3f7099f9eb61cef12dfaeb0b4bd26bf754e72", func := "loop.example/mobilenames/laws.FnExactGraphSync", spec := "fnExactGraphSync", unfollowed := true, recurses := true, apart := false, narrowed := true }
def FnExactGraphSyncUptoSaid : Prop := fnExactGraphSyncUptoRow.holds Try.pinned (OpenSpec.upto fnExactGraphSyncSpec)

/-- 'laws.FnExactPoolBarbs', WHERE WHAT IT READS IS OF BULK AT MOST 1048576: true; the input reads as it did. -/
def fnExactPoolBarbsUptoRow : OpenClaim := { program := "ytlldnglfoajfcaa", sum := "715ee458c5fa7f6ef3284cf184a3f7099f9eb61cef12dfaeb0b4bd26bf754e72", func := "loop.example/mobilenames/laws.FnExactPoolBarbs", spec := "fnExactPoolBarbs", unfollowed := true, recurses := true, loops := true, apart := false, narrowed := true }
def FnExactPoolBarbsUptoSaid : Prop := fnExactPoolBarbsUptoRow.holds Try.pinned (OpenSpec.upto fnExactPoolBarbsSpec)

end Rows
end Go.Proofs.Ytlldnglfoajfcaa
