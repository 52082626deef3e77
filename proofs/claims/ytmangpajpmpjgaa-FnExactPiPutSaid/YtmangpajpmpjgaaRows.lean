/-
  NARROWER THAN 'FOR EVERY INPUT', by the rows' own cells (each row's printed sentence says how): FnExactPiOk: loops · FnExactPiSorted: loops · FnExactPiFree: loops · FnExactPoolOk: loops · FnExactPiPut: loops.
  DERIVED. THE GIVEN ROWS OF THIS SEAT. 6 by the template 'for every input the law returns true; each argument reads behind the call as it read before'; 0 by the template 'total and deterministic' (their statements: YtmangpajpmpjgaaTotals.lean).
  GIVEN WITH THE SEED: the statements are not yours to turn. If you find one false, say at which input.
  Laid BY PROGRAM, IN A SANDBOX (cutbox-rows.mjs): the forced cells as the released guide's own fill.sh prints them over the translation 7aff5af47c812f22… (all of the seat's roots in one cut). By AI agents, Wed Nov 11 2026. No macro, syntax, notation, axiom, sorry.
-/
import Derived.Test.YtmangpajpmpjgaaChecked
import GoSem.Claim
import GoSem.ClaimJoined
import GoSem.ClaimMapViews
import Derived.JoinedTies
import Derived.KernelRfl
namespace Go.Proofs.Ytmangpajpmpjgaa
/- THE CELL 'sum', in the pinned program and in every row, IS THE sha256 OF THE DUMP (.gsa) THAT YtmangpajpmpjgaaProg.lean LOADS. Nothing in Lean hashes anything: it is a label: what it is worth is what the hold of that sum in a sandbox is worth. -/
noncomputable def Try.pinned : Pinned := { name := "ytmangpajpmpjgaa", sum := "7aff5af47c812f22a5769cb26777485c3eb2dccc51a4f0bda4b058673c741df7", checked := Try.checked }
namespace Rows
def none {H : Type} : Left H := { results := [], args := [] }

/-- 'laws.FnExactPiOk': WHATEVER THE INPUT: true; the input reads as it did. -/
def fnExactPiOkSpec : ChangeSpec := { name := "fnExactPiOk", fn := fun _ => fun
  | [d] => { results := [.lit (.bool true)], args := [d] }
  | _ => none }
def fnExactPiOkRow : OpenClaim := { program := "ytmangpajpmpjgaa", sum := "7aff5af47c812f22a5769cb26777485c3eb2dccc51a4f0bda4b058673c741df7", func := "loop.example/mobilenames/laws.FnExactPiOk", spec := "fnExactPiOk", unfollowed := true, recurses := true, loops := true, apart := false }
def FnExactPiOkSaid : Prop := fnExactPiOkRow.holds Try.pinned (OpenSpec.ofChange fnExactPiOkSpec)

/-- ITS FALSE NEIGHBOUR: 'it returns false'. Refute it at one input. -/
def fnExactPiOkWrong : ChangeSpec := { name := "fnExactPiOk", fn := fun _ => fun
  | [d] => { results := [.lit (.bool false)], args := [d] }
  | _ => none }
def FnExactPiOkWrongFalsely : Prop := fnExactPiOkRow.holds Try.pinned (OpenSpec.ofChange fnExactPiOkWrong)

/-- 'laws.FnExactPiSorted': WHATEVER THE INPUT: true; the input reads as it did. -/
def fnExactPiSortedSpec : ChangeSpec := { name := "fnExactPiSorted", fn := fun _ => fun
  | [d1, d2, d3] => { results := [.lit (.bool true)], args := [d1, d2, d3] }
  | _ => none }
def fnExactPiSortedRow : OpenClaim := { program := "ytmangpajpmpjgaa", sum := "7aff5af47c812f22a5769cb26777485c3eb2dccc51a4f0bda4b058673c741df7", func := "loop.example/mobilenames/laws.FnExactPiSorted", spec := "fnExactPiSorted", unfollowed := true, recurses := true, loops := true, apart := false }
def FnExactPiSortedSaid : Prop := fnExactPiSortedRow.holds Try.pinned (OpenSpec.ofChange fnExactPiSortedSpec)

/-- ITS FALSE NEIGHBOUR: 'it returns false'. Refute it at one input. -/
def fnExactPiSortedWrong : ChangeSpec := { name := "fnExactPiSorted", fn := fun _ => fun
  | [d1, d2, d3] => { results := [.lit (.bool false)], args := [d1, d2, d3] }
  | _ => none }
def FnExactPiSortedWrongFalsely : Prop := fnExactPiSortedRow.holds Try.pinned (OpenSpec.ofChange fnExactPiSortedWrong)

/-- 'laws.FnExactPiFree': WHATEVER THE INPUT: true; the input reads as it did. -/
def fnExactPiFreeSpec : ChangeSpec := { name := "fnExactPiFree", fn := fun _ => fun
  | [d] => { results := [.lit (.bool true)], args := [d] }
  | _ => none }
def fnExactPiFreeRow : OpenClaim := { program := "ytmangpajpmpjgaa", sum := "7aff5af47c812f22a5769cb26777485c3eb2dccc51a4f0bda4b058673c741df7", func := "loop.example/mobilenames/laws.FnExactPiFree", spec := "fnExactPiFree", unfollowed := true, recurses := true, loops := true, apart := false }
def FnExactPiFreeSaid : Prop := fnExactPiFreeRow.holds Try.pinned (OpenSpec.ofChange fnExactPiFreeSpec)

/-- ITS FALSE NEIGHBOUR: 'it returns false'. Refute it at one input. -/
def fnExactPiFreeWrong : ChangeSpec := { name := "fnExactPiFree", fn := fun _ => fun
  | [d] => { results := [.lit (.bool false)], args := [d] }
  | _ => none }
def FnExactPiFreeWrongFalsely : Prop := fnExactPiFreeRow.holds Try.pinned (OpenSpec.ofChange fnExactPiFreeWrong)

/-- 'laws.FnPiFree': WHATEVER THE INPUT: true; the input reads as it did. -/
def fnPiFreeSpec : ChangeSpec := { name := "fnPiFree", fn := fun _ => fun
  | [d] => { results := [.lit (.bool true)], args := [d] }
  | _ => none }
def fnPiFreeRow : OpenClaim := { program := "ytmangpajpmpjgaa", sum := "7aff5af47c812f22a5769cb26777485c3eb2dccc51a4f0bda4b058673c741df7", func := "loop.example/mobilenames/laws.FnPiFree", spec := "fnPiFree", unfollowed := true, recurses := true, apart := false }
def FnPiFreeSaid : Prop := fnPiFreeRow.holds Try.pinned (OpenSpec.ofChange fnPiFreeSpec)

/-- ITS FALSE NEIGHBOUR: 'it returns false'. Refute it at one input. -/
def fnPiFreeWrong : ChangeSpec := { name := "fnPiFree", fn := fun _ => fun
  | [d] => { results := [.lit (.bool false)], args := [d] }
  | _ => none }
def FnPiFreeWrongFalsely : Prop := fnPiFreeRow.holds Try.pinned (OpenSpec.ofChange fnPiFreeWrong)

/-- 'laws.FnExactPoolOk': WHATEVER THE INPUT: true; the input reads as it did. -/
def fnExactPoolOkSpec : ChangeSpec := { name := "fnExactPoolOk", fn := fun _ => fun
  | [d] => { results := [.lit (.bool true)], args := [d] }
  | _ => none }
def fnExactPoolOkRow : OpenClaim := { program := "ytmangpajpmpjgaa", sum := "7aff5af47c812f22a5769cb26777485c3eb2dccc51a4f0bda4b058673c741df7", func := "loop.example/mobilenames/laws.FnExactPoolOk", spec := "fnExactPoolOk", unfollowed := true, recurses := true, loops := true, apart := false }
def FnExactPoolOkSaid : Prop := fnExactPoolOkRow.holds Try.pinned (OpenSpec.ofChange fnExactPoolOkSpec)

/-- ITS FALSE NEIGHBOUR: 'it returns false'. Refute it at one input. -/
def fnExactPoolOkWrong : ChangeSpec := { name := "fnExactPoolOk", fn := fun _ => fun
  | [d] => { results := [.lit (.bool false)], args := [d] }
  | _ => none }
def FnExactPoolOkWrongFalsely : Prop := fnExactPoolOkRow.holds Try.pinned (OpenSpec.ofChange fnExactPoolOkWrong)

/-- 'laws.FnExactPiPut': WHATEVER THE INPUT: true; the input reads as it did. -/
def fnExactPiPutSpec : ChangeSpec := { name := "fnExactPiPut", fn := fun _ => fun
  | [d1, d2, d3] => { results := [.lit (.bool true)], args := [d1, d2, d3] }
  | _ => none }
def fnExactPiPutRow : OpenClaim := { program := "ytmangpajpmpjgaa", sum := "7aff5af47c812f22a5769cb26777485c3eb2dccc51a4f0bda4b058673c741df7", func := "loop.example/mobilenames/laws.FnExactPiPut", spec := "fnExactPiPut", unfollowed := true, recurses := true, loops := true, apart := false }
def FnExactPiPutSaid : Prop := fnExactPiPutRow.holds Try.pinned (OpenSpec.ofChange fnExactPiPutSpec)

/-- ITS FALSE NEIGHBOUR: 'it returns false'. Refute it at one input. -/
def fnExactPiPutWrong : ChangeSpec := { name := "fnExactPiPut", fn := fun _ => fun
  | [d1, d2, d3] => { results := [.lit (.bool false)], args := [d1, d2, d3] }
  | _ => none }
def FnExactPiPutWrongFalsely : Prop := fnExactPiPutRow.holds Try.pinned (OpenSpec.ofChange fnExactPiPutWrong)

/- THE SECOND FORM. 'bulk': how many values and letters a reading holds, each counted each time it is reached (what is shared counts as often as it is met; a slice's spare places count too). A statement '..UptoSaid' is the law's where the arguments, and the package variables that the reading takes, are together of bulk at most 1048576: NARROWER than '..Said'. Prove '..Said' where nothing that the law and all that it calls make is longer than what came in: it says more and counts as full. Else prove '..UptoSaid'. A law counts once. -/
mutual
def uptoBulk {H : Type} : DataW H → Nat
  | .lit (.string bytes) => bytes.length + 1
  | .lit _ => 1
  | .nil => 1
  | .ptr d => uptoBulk d + 1
  | .slice elems spare => uptoBulkAll elems + uptoBulkAll spare + 1
  | .agg parts => uptoBulkAll parts + 1
  | .iface _ d => uptoBulk d + 1
  | .map entries => uptoBulkEntries entries + 1
  | .held _ => 1
def uptoBulkAll {H : Type} : List (DataW H) → Nat
  | [] => 0
  | d :: r => uptoBulk d + uptoBulkAll r
def uptoBulkEntries {H : Type} : List (Lit × DataW H) → Nat
  | [] => 0
  | x :: r => uptoBulkEntry x + uptoBulkEntries r
def uptoBulkEntry {H : Type} : Lit × DataW H → Nat
  | (.string bytes, d) => bytes.length + uptoBulk d + 1
  | (_, d) => uptoBulk d + 1
 end
def uptoSmall : (H : Type) → List (DataW H) → Bool := fun _ ds => decide (uptoBulkAll ds ≤ 1048576)
def OpenSpec.upto (s : _root_.Go.ChangeSpec) : _root_.Go.OpenSpec := { _root_.Go.OpenSpec.ofChange s with cond := some uptoSmall }

/-- 'laws.FnExactPiOk', WHERE WHAT IT READS IS OF BULK AT MOST 1048576: true; the input reads as it did. -/
def fnExactPiOkUptoRow : OpenClaim := { program := "ytmangpajpmpjgaa", sum := "7aff5af47c812f22a5769cb26777485c3eb2dccc51a4f0bda4b058673c741df7", func := "loop.example/mobilenames/laws.FnExactPiOk", spec := "fnExactPiOk", unfollowed := true, recurses := true, loops := true, apart := false, narrowed := true }
def FnExactPiOkUptoSaid : Prop := fnExactPiOkUptoRow.holds Try.pinned (OpenSpec.upto fnExactPiOkSpec)

/-- 'laws.FnExactPiSorted', WHERE WHAT IT READS IS OF BULK AT MOST 1048576: true; the input reads as it did. -/
def fnExactPiSortedUptoRow : OpenClaim := { program := "ytmangpajpmpjgaa", sum := "7aff5af47c812f22a5769cb26777485c3eb2dccc51a4f0bda4b058673c741df7", func := "loop.example/mobilenames/laws.FnExactPiSorted", spec := "fnExactPiSorted", unfollowed := true, recurses := true, loops := true, apart := false, narrowed := true }
def FnExactPiSortedUptoSaid : Prop := fnExactPiSortedUptoRow.holds Try.pinned (OpenSpec.upto fnExactPiSortedSpec)

/-- 'laws.FnExactPiFree', WHERE WHAT IT READS IS OF BULK AT MOST 1048576: true; the input reads as it did. -/
def fnExactPiFreeUptoRow : OpenClaim := { program := "ytmangpajpmpjgaa", sum := "7aff5af47c812f22a5769cb26777485c3eb2dccc51a4f0bda4b058673c741df7", func := "loop.example/mobilenames/laws.FnExactPiFree", spec := "fnExactPiFree", unfollowed := true, recurses := true, loops := true, apart := false, narrowed := true }
def FnExactPiFreeUptoSaid : Prop := fnExactPiFreeUptoRow.holds Try.pinned (OpenSpec.upto fnExactPiFreeSpec)

/-- 'laws.FnPiFree', WHERE WHAT IT READS IS OF BULK AT MOST 1048576: true; the input reads as it did. -/
def fnPiFreeUptoRow : OpenClaim := { program := "ytmangpajpmpjgaa", sum := "7aff5af47c812f22a5769cb26777485c3eb2dccc51a4f0bda4b058673c741df7", func := "loop.example/mobilenames/laws.FnPiFree", spec := "fnPiFree", unfollowed := true, recurses := true, apart := false, narrowed := true }
def FnPiFreeUptoSaid : Prop := fnPiFreeUptoRow.holds Try.pinned (OpenSpec.upto fnPiFreeSpec)

/-- 'laws.FnExactPoolOk', WHERE WHAT IT READS IS OF BULK AT MOST 1048576: true; the input reads as it did. -/
def fnExactPoolOkUptoRow : OpenClaim := { program := "ytmangpajpmpjgaa", sum := "7aff5af47c812f22a5769cb26777485c3eb2dccc51a4f0bda4b058673c741df7", func := "loop.example/mobilenames/laws.FnExactPoolOk", spec := "fnExactPoolOk", unfollowed := true, recurses := true, loops := true, apart := false, narrowed := true }
def FnExactPoolOkUptoSaid : Prop := fnExactPoolOkUptoRow.holds Try.pinned (OpenSpec.upto fnExactPoolOkSpec)

/-- 'laws.FnExactPiPut', WHERE WHAT IT READS IS OF BULK AT MOST 1048576: true; the input reads as it did. -/
def fnExactPiPutUptoRow : OpenClaim := { program := "ytmangpajpmpjgaa", sum := "7aff5af47c812f22a5769cb26777485c3eb2dccc51a4f0bda4b058673c741df7", func := "loop.example/mobilenames/laws.FnExactPiPut", spec := "fnExactPiPut", unfollowed := true, recurses := true, loops := true, apart := false, narrowed := true }
def FnExactPiPutUptoSaid : Prop := fnExactPiPutUptoRow.holds Try.pinned (OpenSpec.upto fnExactPiPutSpec)

end Rows
end Go.Proofs.Ytmangpajpmpjgaa
