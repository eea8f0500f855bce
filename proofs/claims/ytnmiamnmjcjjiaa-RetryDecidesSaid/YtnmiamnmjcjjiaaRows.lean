/-
  No cell of these rows narrows 'for every input' (looked for: loops, veiled, ifaces, maps, wideKeys, modest, calm, conditions, laid).
  DERIVED. THE GIVEN ROWS OF THIS SEAT. 3 by the template 'for every input the law returns true; each argument reads behind the call as it read before'; 0 by the template 'total and deterministic' (their statements: YtnmiamnmjcjjiaaTotals.lean).
  GIVEN WITH THE SEED: the statements are not yours to turn. If you find one false, say at which input.
  Laid BY PROGRAM, IN A SANDBOX (cutbox-rows.mjs): the forced cells as the released guide's own fill.sh prints them over the translation e2c589ea2b403a73… (all of the seat's roots in one cut). By AI agents, Wed Nov 11 2026. No macro, syntax, notation, axiom, sorry.
-/
import Derived.Test.YtnmiamnmjcjjiaaChecked
import GoSem.Claim
import GoSem.ClaimJoined
import GoSem.ClaimMapViews
import Derived.JoinedTies
import Derived.KernelRfl
namespace Go.Proofs.Ytnmiamnmjcjjiaa
/- THE CELL 'sum', in the pinned program and in every row, IS THE sha256 OF THE DUMP (.gsa) THAT YtnmiamnmjcjjiaaProg.lean LOADS. Nothing in Lean hashes anything: it is a label: what it is worth is what the hold of that sum in a sandbox is worth. -/
noncomputable def Try.pinned : Pinned := { name := "ytnmiamnmjcjjiaa", sum := "e2c589ea2b403a731b656cb722e2951de4e1094ac8e32eb8644f5e6f98cb0f65", checked := Try.checked }
namespace Rows
def none {H : Type} : Left H := { results := [], args := [] }

/-- 'signalboxlaw17.RetryDecides': WHATEVER THE INPUT: true; the input reads as it did. -/
def retryDecidesSpec : ChangeSpec := { name := "retryDecides", fn := fun _ => fun
  | [d1, d2, d3, d4, d5] => { results := [.lit (.bool true)], args := [d1, d2, d3, d4, d5] }
  | _ => none }
def retryDecidesRow : OpenClaim := { program := "ytnmiamnmjcjjiaa", sum := "e2c589ea2b403a731b656cb722e2951de4e1094ac8e32eb8644f5e6f98cb0f65", func := "signalbox/signalboxlaw17.RetryDecides", spec := "retryDecides", apart := false }
def RetryDecidesSaid : Prop := retryDecidesRow.holds Try.pinned (OpenSpec.ofChange retryDecidesSpec)

/-- ITS FALSE NEIGHBOUR: 'it returns false'. Refute it at one input. -/
def retryDecidesWrong : ChangeSpec := { name := "retryDecides", fn := fun _ => fun
  | [d1, d2, d3, d4, d5] => { results := [.lit (.bool false)], args := [d1, d2, d3, d4, d5] }
  | _ => none }
def RetryDecidesWrongFalsely : Prop := retryDecidesRow.holds Try.pinned (OpenSpec.ofChange retryDecidesWrong)

/-- 'signalboxlaw17.RetrySafe': WHATEVER THE INPUT: true; the input reads as it did. -/
def retrySafeSpec : ChangeSpec := { name := "retrySafe", fn := fun _ => fun
  | [d1, d2, d3] => { results := [.lit (.bool true)], args := [d1, d2, d3] }
  | _ => none }
def retrySafeRow : OpenClaim := { program := "ytnmiamnmjcjjiaa", sum := "e2c589ea2b403a731b656cb722e2951de4e1094ac8e32eb8644f5e6f98cb0f65", func := "signalbox/signalboxlaw17.RetrySafe", spec := "retrySafe", apart := false }
def RetrySafeSaid : Prop := retrySafeRow.holds Try.pinned (OpenSpec.ofChange retrySafeSpec)

/-- ITS FALSE NEIGHBOUR: 'it returns false'. Refute it at one input. -/
def retrySafeWrong : ChangeSpec := { name := "retrySafe", fn := fun _ => fun
  | [d1, d2, d3] => { results := [.lit (.bool false)], args := [d1, d2, d3] }
  | _ => none }
def RetrySafeWrongFalsely : Prop := retrySafeRow.holds Try.pinned (OpenSpec.ofChange retrySafeWrong)

/-- 'signalboxlaw17.RetryTimes': WHATEVER THE INPUT: true; the input reads as it did. -/
def retryTimesSpec : ChangeSpec := { name := "retryTimes", fn := fun _ => fun
  | [d1, d2, d3, d4, d5] => { results := [.lit (.bool true)], args := [d1, d2, d3, d4, d5] }
  | _ => none }
def retryTimesRow : OpenClaim := { program := "ytnmiamnmjcjjiaa", sum := "e2c589ea2b403a731b656cb722e2951de4e1094ac8e32eb8644f5e6f98cb0f65", func := "signalbox/signalboxlaw17.RetryTimes", spec := "retryTimes", apart := false }
def RetryTimesSaid : Prop := retryTimesRow.holds Try.pinned (OpenSpec.ofChange retryTimesSpec)

/-- ITS FALSE NEIGHBOUR: 'it returns false'. Refute it at one input. -/
def retryTimesWrong : ChangeSpec := { name := "retryTimes", fn := fun _ => fun
  | [d1, d2, d3, d4, d5] => { results := [.lit (.bool false)], args := [d1, d2, d3, d4, d5] }
  | _ => none }
def RetryTimesWrongFalsely : Prop := retryTimesRow.holds Try.pinned (OpenSpec.ofChange retryTimesWrong)

/- THE SECOND FORM. 'bulk': how many values and letters a reading holds, each counted each time it is reached (what is shared counts as often as it is met; a slice's spare places count too). A statement '..UptoSaid' is the law's where the arguments, and the package variables that the reading takes, are together of bulk at most 1048576: NARROWER than '..Said'. Prove '..Said' where nothing that the law and all that it calls make is longer than what came in: it says more and counts as full. Else prove '..UptoSaid'. A law counts once. -/
mutual
def uptoBulk {H : Type} : DataW H → Nat
  | .lit (.string bytes) => bytes.length + 1
  | .lit _ => 1
  | .nil => 1
  | .ptr d => uptoBulk d + 1
  | .slice elems spare => uptoBulkAll elems + uptoBulkAll spare + 1
  | .agg parts => uptoBulkAll parts + 1
  | .iface _ d => uptoBulk d + 1
  | .map entries => uptoBulkEntries entries + 1
  | .held _ => 1
def uptoBulkAll {H : Type} : List (DataW H) → Nat
  | [] => 0
  | d :: r => uptoBulk d + uptoBulkAll r
def uptoBulkEntries {H : Type} : List (Lit × DataW H) → Nat
  | [] => 0
  | x :: r => uptoBulkEntry x + uptoBulkEntries r
def uptoBulkEntry {H : Type} : Lit × DataW H → Nat
  | (.string bytes, d) => bytes.length + uptoBulk d + 1
  | (_, d) => uptoBulk d + 1
 end
def uptoSmall : (H : Type) → List (DataW H) → Bool := fun _ ds => decide (uptoBulkAll ds ≤ 1048576)
def OpenSpec.upto (s : _root_.Go.ChangeSpec) : _root_.Go.OpenSpec := { _root_.Go.OpenSpec.ofChange s with cond := some uptoSmall }

/-- 'signalboxlaw17.RetryDecides', WHERE WHAT IT READS IS OF BULK AT MOST 1048576: true; the input reads as it did. -/
def retryDecidesUptoRow : OpenClaim := { program := "ytnmiamnmjcjjiaa", sum := "e2c589ea2b403a731b656cb722e2951de4e1094ac8e32eb8644f5e6f98cb0f65", func := "signalbox/signalboxlaw17.RetryDecides", spec := "retryDecides", apart := false, narrowed := true }
def RetryDecidesUptoSaid : Prop := retryDecidesUptoRow.holds Try.pinned (OpenSpec.upto retryDecidesSpec)

/-- 'signalboxlaw17.RetrySafe', WHERE WHAT IT READS IS OF BULK AT MOST 1048576: true; the input reads as it did. -/
def retrySafeUptoRow : OpenClaim := { program := "ytnmiamnmjcjjiaa", sum := "e2c589ea2b403a731b656cb722e2951de4e1094ac8e32eb8644f5e6f98cb0f65", func := "signalbox/signalboxlaw17.RetrySafe", spec := "retrySafe", apart := false, narrowed := true }
def RetrySafeUptoSaid : Prop := retrySafeUptoRow.holds Try.pinned (OpenSpec.upto retrySafeSpec)

/-- 'signalboxlaw17.RetryTimes', WHERE WHAT IT READS IS OF BULK AT MOST 1048576: true; the input reads as it did. -/
def retryTimesUptoRow : OpenClaim := { program := "ytnmiamnmjcjjiaa", sum := "e2c589ea2b403a731b656cb722e2951de4e1094ac8e32eb8644f5e6f98cb0f65", func := "signalbox/signalboxlaw17.RetryTimes", spec := "retryTimes", apart := false, narrowed := true }
def RetryTimesUptoSaid : Prop := retryTimesUptoRow.holds Try.pinned (OpenSpec.upto retryTimesSpec)

end Rows
end Go.Proofs.Ytnmiamnmjcjjiaa
