/-
  No cell of these rows narrows 'for every input' (looked for: loops, veiled, ifaces, maps, wideKeys, modest, calm, conditions, laid).
  DERIVED. THE GIVEN ROWS OF THIS SEAT. 6 by the template 'for every input the law returns true; each argument reads behind the call as it read before'; 0 by the template 'total and deterministic' (their statements: YtmpbcedglimhkaaTotals.lean).
  GIVEN WITH THE SEED: the statements are not yours to turn. If you find one false, say at which input.
  Laid BY PROGRAM, IN A SANDBOX (cutbox-rows.mjs): the forced cells as the released guide's own fill.sh prints them over the translation c87027bc0217498a… (all of the seat's roots in one cut). By AI agents, Wed Nov 11 2026. No macro, syntax, notation, axiom, sorry.
-/
import Derived.Test.YtmpbcedglimhkaaChecked
import GoSem.Claim
import GoSem.ClaimJoined
import GoSem.ClaimMapViews
import Derived.JoinedTies
import Derived.KernelRfl
namespace Go.Proofs.Ytmpbcedglimhkaa
/- THE CELL 'sum', in the pinned program and in every row, IS THE sha256 OF THE DUMP (.gsa) THAT YtmpbcedglimhkaaProg.lean LOADS. Nothing in Lean hashes anything: it is a label: what it is worth is what the hold of that sum in a sandbox is worth. -/
noncomputable def Try.pinned : Pinned := { name := "ytmpbcedglimhkaa", sum := "c87027bc0217498a5c78c34bd1e2ca522fb0af2429801203d632878e626e2922", checked := Try.checked }
namespace Rows
def none {H : Type} : Left H := { results := [], args := [] }

/-- 'laws.FnPiFree': WHATEVER THE INPUT: true; the input reads as it did. -/
def fnPiFreeSpec : ChangeSpec := { name := "fnPiFree", fn := fun _ => fun
  | [d] => { results := [.lit (.bool true)], args := [d] }
  | _ => none }
def fnPiFreeRow : OpenClaim := { program := "ytmpbcedglimhkaa", sum := "c87027bc0217498a5c78c34bd1e2ca522fb0af2429801203d632878e626e2922", func := "loop.example/mobilenames/laws.FnPiFree", spec := "fnPiFree", unfollowed := true, recurses := true, apart := false }
def FnPiFreeSaid : Prop := fnPiFreeRow.holds Try.pinned (OpenSpec.ofChange fnPiFreeSpec)

/-- ITS FALSE NEIGHBOUR: 'it returns false'. Refute it at one input. -/
def fnPiFreeWrong : ChangeSpec := { name := "fnPiFree", fn := fun _ => fun
  | [d] => { results := [.lit (.bool false)], args := [d] }
  | _ => none }
def FnPiFreeWrongFalsely : Prop := fnPiFreeRow.holds Try.pinned (OpenSpec.ofChange fnPiFreeWrong)

/-- 'laws.FnGraphPar': WHATEVER THE INPUT: true; the input reads as it did. -/
def fnGraphParSpec : ChangeSpec := { name := "fnGraphPar", fn := fun _ => fun
  | [d] => { results := [.lit (.bool true)], args := [d] }
  | _ => none }
def fnGraphParRow : OpenClaim := { program := "ytmpbcedglimhkaa", sum := "c87027bc0217498a5c78c34bd1e2ca522fb0af2429801203d632878e626e2922", func := "loop.example/mobilenames/laws.FnGraphPar", spec := "fnGraphPar", unfollowed := true, recurses := true, apart := false }
def FnGraphParSaid : Prop := fnGraphParRow.holds Try.pinned (OpenSpec.ofChange fnGraphParSpec)

/-- ITS FALSE NEIGHBOUR: 'it returns false'. Refute it at one input. -/
def fnGraphParWrong : ChangeSpec := { name := "fnGraphPar", fn := fun _ => fun
  | [d] => { results := [.lit (.bool false)], args := [d] }
  | _ => none }
def FnGraphParWrongFalsely : Prop := fnGraphParRow.holds Try.pinned (OpenSpec.ofChange fnGraphParWrong)

/-- 'laws.FnGraphHide': WHATEVER THE INPUT: true; the input reads as it did. -/
def fnGraphHideSpec : ChangeSpec := { name := "fnGraphHide", fn := fun _ => fun
  | [d] => { results := [.lit (.bool true)], args := [d] }
  | _ => none }
def fnGraphHideRow : OpenClaim := { program := "ytmpbcedglimhkaa", sum := "c87027bc0217498a5c78c34bd1e2ca522fb0af2429801203d632878e626e2922", func := "loop.example/mobilenames/laws.FnGraphHide", spec := "fnGraphHide", unfollowed := true, recurses := true, apart := false }
def FnGraphHideSaid : Prop := fnGraphHideRow.holds Try.pinned (OpenSpec.ofChange fnGraphHideSpec)

/-- ITS FALSE NEIGHBOUR: 'it returns false'. Refute it at one input. -/
def fnGraphHideWrong : ChangeSpec := { name := "fnGraphHide", fn := fun _ => fun
  | [d] => { results := [.lit (.bool false)], args := [d] }
  | _ => none }
def FnGraphHideWrongFalsely : Prop := fnGraphHideRow.holds Try.pinned (OpenSpec.ofChange fnGraphHideWrong)

/-- 'laws.FnGraphVeil': WHATEVER THE INPUT: true; the input reads as it did. -/
def fnGraphVeilSpec : ChangeSpec := { name := "fnGraphVeil", fn := fun _ => fun
  | [d] => { results := [.lit (.bool true)], args := [d] }
  | _ => none }
def fnGraphVeilRow : OpenClaim := { program := "ytmpbcedglimhkaa", sum := "c87027bc0217498a5c78c34bd1e2ca522fb0af2429801203d632878e626e2922", func := "loop.example/mobilenames/laws.FnGraphVeil", spec := "fnGraphVeil", unfollowed := true, recurses := true, apart := false }
def FnGraphVeilSaid : Prop := fnGraphVeilRow.holds Try.pinned (OpenSpec.ofChange fnGraphVeilSpec)

/-- ITS FALSE NEIGHBOUR: 'it returns false'. Refute it at one input. -/
def fnGraphVeilWrong : ChangeSpec := { name := "fnGraphVeil", fn := fun _ => fun
  | [d] => { results := [.lit (.bool false)], args := [d] }
  | _ => none }
def FnGraphVeilWrongFalsely : Prop := fnGraphVeilRow.holds Try.pinned (OpenSpec.ofChange fnGraphVeilWrong)

/-- 'laws.FnGraphSync': WHATEVER THE INPUT: true; the input reads as it did. -/
def fnGraphSyncSpec : ChangeSpec := { name := "fnGraphSync", fn := fun _ => fun
  | [d] => { results := [.lit (.bool true)], args := [d] }
  | _ => none }
def fnGraphSyncRow : OpenClaim := { program := "ytmpbcedglimhkaa", sum := "c87027bc0217498a5c78c34bd1e2ca522fb0af2429801203d632878e626e2922", func := "loop.example/mobilenames/laws.FnGraphSync", spec := "fnGraphSync", unfollowed := true, recurses := true, apart := false }
def FnGraphSyncSaid : Prop := fnGraphSyncRow.holds Try.pinned (OpenSpec.ofChange fnGraphSyncSpec)

/-- ITS FALSE NEIGHBOUR: 'it returns false'. Refute it at one input. -/
def fnGraphSyncWrong : ChangeSpec := { name := "fnGraphSync", fn := fun _ => fun
  | [d] => { results := [.lit (.bool false)], args := [d] }
  | _ => none }
def FnGraphSyncWrongFalsely : Prop := fnGraphSyncRow.holds Try.pinned (OpenSpec.ofChange fnGraphSyncWrong)

/-- 'laws.FnGraphAct': WHATEVER THE INPUT: true; the input reads as it did. -/
def fnGraphActSpec : ChangeSpec := { name := "fnGraphAct", fn := fun _ => fun
  | [d] => { results := [.lit (.bool true)], args := [d] }
  | _ => none }
def fnGraphActRow : OpenClaim := { program := "ytmpbcedglimhkaa", sum := "c87027bc0217498a5c78c34bd1e2ca522fb0af2429801203d632878e626e2922", func := "loop.example/mobilenames/laws.FnGraphAct", spec := "fnGraphAct", unfollowed := true, recurses := true, apart := false }
def FnGraphActSaid : Prop := fnGraphActRow.holds Try.pinned (OpenSpec.ofChange fnGraphActSpec)

/-- ITS FALSE NEIGHBOUR: 'it returns false'. Refute it at one input. -/
def fnGraphActWrong : ChangeSpec := { name := "fnGraphAct", fn := fun _ => fun
  | [d] => { results := [.lit (.bool false)], args := [d] }
  | _ => none }
def FnGraphActWrongFalsely : Prop := fnGraphActRow.holds Try.pinned (OpenSpec.ofChange fnGraphActWrong)

/- THE SECOND FORM. 'bulk': how many values and letters a reading holds, each counted each time it is reached (what is shared counts as often as it is met; a slice's spare places count too). A statement '..UptoSaid' is the law's where the arguments, and the package variables that the reading takes, are together of bulk at most 1048576: NARROWER than '..Said'. Prove '..Said' where nothing that the law and all that it calls make is longer than what came in: it says more and counts as full. Else prove '..UptoSaid'. A law counts once. -/
mutual
def uptoBulk {H : Type} : DataW H → Nat
  | .lit (.string bytes) => bytes.length + 1
  | .lit _ => 1
  | .nil => 1
  | .ptr d => uptoBulk d + 1
  | .slice elems spare => uptoBulkAll elems + uptoBulkAll spare + 1
  | .agg parts => uptoBulkAll parts + 1
  | .iface _ d => uptoBulk d + 1
  | .map entries => uptoBulkEntries entries + 1
  | .held _ => 1
def uptoBulkAll {H : Type} : List (DataW H) → Nat
  | [] => 0
  | d :: r => uptoBulk d + uptoBulkAll r
def uptoBulkEntries {H : Type} : List (Lit × DataW H) → Nat
  | [] => 0
  | x :: r => uptoBulkEntry x + uptoBulkEntries r
def uptoBulkEntry {H : Type} : Lit × DataW H → Nat
  | (.string bytes, d) => bytes.length + uptoBulk d + 1
  | (_, d) => uptoBulk d + 1
 end
def uptoSmall : (H : Type) → List (DataW H) → Bool := fun _ ds => decide (uptoBulkAll ds ≤ 1048576)
def OpenSpec.upto (s : _root_.Go.ChangeSpec) : _root_.Go.OpenSpec := { _root_.Go.OpenSpec.ofChange s with cond := some uptoSmall }

/-- 'laws.FnPiFree', WHERE WHAT IT READS IS OF BULK AT MOST 1048576: true; the input reads as it did. -/
def fnPiFreeUptoRow : OpenClaim := { program := "ytmpbcedglimhkaa", sum := "c87027bc0217498a5c78c34bd1e2ca522fb0af2429801203d632878e626e2922", func := "loop.example/mobilenames/laws.FnPiFree", spec := "fnPiFree", unfollowed := true, recurses := true, apart := false, narrowed := true }
def FnPiFreeUptoSaid : Prop := fnPiFreeUptoRow.holds Try.pinned (OpenSpec.upto fnPiFreeSpec)

/-- 'laws.FnGraphPar', WHERE WHAT IT READS IS OF BULK AT MOST 1048576: true; the input reads as it did. -/
def fnGraphParUptoRow : OpenClaim := { program := "ytmpbcedglimhkaa", sum := "c87027bc0217498a5c78c34bd1e2ca522fb0af2429801203d632878e626e2922", func := "loop.example/mobilenames/laws.FnGraphPar", spec := "fnGraphPar", unfollowed := true, recurses := true, apart := false, narrowed := true }
def FnGraphParUptoSaid : Prop := fnGraphParUptoRow.holds Try.pinned (OpenSpec.upto fnGraphParSpec)

/-- 'laws.FnGraphHide', WHERE WHAT IT READS IS OF BULK AT MOST 1048576: true; the input reads as it did. -/
def fnGraphHideUptoRow : OpenClaim := { program := "ytmpbcedglimhkaa", sum := "c87027bc0217498a5c78c34bd1e2ca522fb0af2429801203d632878e626e2922", func := "loop.example/mobilenames/laws.FnGraphHide", spec := "fnGraphHide", unfollowed := true, recurses := true, apart := false, narrowed := true }
def FnGraphHideUptoSaid : Prop := fnGraphHideUptoRow.holds Try.pinned (OpenSpec.upto fnGraphHideSpec)

/-- 'laws.FnGraphVeil', WHERE WHAT IT READS IS OF BULK AT MOST 1048576: true; the input reads as it did. -/
def fnGraphVeilUptoRow : OpenClaim := { program := "ytmpbcedglimhkaa", sum := "c87027bc0217498a5c78c34bd1e2ca522fb0af2429801203d632878e626e2922", func := "loop.example/mobilenames/laws.FnGraphVeil", spec := "fnGraphVeil", unfollowed := true, recurses := true, apart := false, narrowed := true }
def FnGraphVeilUptoSaid : Prop := fnGraphVeilUptoRow.holds Try.pinned (OpenSpec.upto fnGraphVeilSpec)

/-- 'laws.FnGraphSync', WHERE WHAT IT READS IS OF BULK AT MOST 1048576: true; the input reads as it did. -/
def fnGraphSyncUptoRow : OpenClaim := { program := "ytmpbcedglimhkaa", sum := "c87027bc0217498a5c78c34bd1e2ca522fb0af2429801203d632878e626e2922", func := "loop.example/mobilenames/laws.FnGraphSync", spec := "fnGraphSync", unfollowed := true, recurses := true, apart := false, narrowed := true }
def FnGraphSyncUptoSaid : Prop := fnGraphSyncUptoRow.holds Try.pinned (OpenSpec.upto fnGraphSyncSpec)

/-- 'laws.FnGraphAct', WHERE WHAT IT READS IS OF BULK AT MOST 1048576: true; the input reads as it did. -/
def fnGraphActUptoRow : OpenClaim := { program := "ytmpbcedglimhkaa", sum := "c87027bc0217498a5c78c34bd1e2ca522fb0af2429801203d632878e626e2922", func := "loop.example/mobilenames/laws.FnGraphAct", spec := "fnGraphAct", unfollowed := true, recurses := true, apart := false, narrowed := true }
def FnGraphActUptoSaid : Prop := fnGraphActUptoRow.holds Try.pinned (OpenSpec.upto fnGraphActSpec)

end Rows
end Go.Proofs.Ytmpbcedglimhkaa
