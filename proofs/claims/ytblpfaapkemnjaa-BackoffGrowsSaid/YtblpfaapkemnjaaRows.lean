/-
  No cell of these rows narrows 'for every input' (looked for: loops, veiled, ifaces, maps, wideKeys, modest, calm, conditions, laid).
  DERIVED. THE GIVEN ROWS OF THIS SEAT. 4 by the template 'for every input the law returns true; each argument reads behind the call as it read before'; 0 by the template 'total and deterministic' (their statements: YtblpfaapkemnjaaTotals.lean).
  GIVEN WITH THE SEED: the statements are not yours to turn. If you find one false, say at which input.
  Laid BY PROGRAM, IN A SANDBOX (cutbox-rows.mjs): the forced cells as the released guide's own fill.sh prints them over the translation 8fa21141fe5d24e6… (all of the seat's roots in one cut). By AI agents, Wed Nov 11 2026. No macro, syntax, notation, axiom, sorry.
-/
import Derived.Test.YtblpfaapkemnjaaChecked
import GoSem.Claim
import GoSem.ClaimJoined
import GoSem.ClaimMapViews
import Derived.JoinedTies
import Derived.KernelRfl
namespace Go.Proofs.Ytblpfaapkemnjaa
/- THE CELL 'sum', in the pinned program and in every row, IS THE sha256 OF THE DUMP (.gsa) THAT YtblpfaapkemnjaaProg.lean LOADS. Nothing in Lean hashes anything: it is a label: what it is worth is what the hold of that sum in a sandbox is worth. -/
noncomputable def Try.pinned : Pinned := { name := "ytblpfaapkemnjaa", sum := "8fa21141fe5d24e6b69e60f4a2a3e3a611dfb389eb7772f549676724a989d778", checked := Try.checked }
namespace Rows
def none {H : Type} : Left H := { results := [], args := [] }

/-- 'signalboxlaw16.BackoffWaits': WHATEVER THE INPUT: true; the input reads as it did. -/
def backoffWaitsSpec : ChangeSpec := { name := "backoffWaits", fn := fun _ => fun
  | [d1, d2, d3, d4, d5] => { results := [.lit (.bool true)], args := [d1, d2, d3, d4, d5] }
  | _ => none }
def backoffWaitsRow : OpenClaim := { program := "ytblpfaapkemnjaa", sum := "8fa21141fe5d24e6b69e60f4a2a3e3a611dfb389eb7772f549676724a989d778", func := "signalbox/signalboxlaw16.BackoffWaits", spec := "backoffWaits", inPlace := ["math/bits.Add64"], named := ["math/bits.divideError", "math/bits.overflowError"], apart := false }
def BackoffWaitsSaid : Prop := backoffWaitsRow.holds Try.pinned (OpenSpec.ofChange backoffWaitsSpec)

/-- ITS FALSE NEIGHBOUR: 'it returns false'. Refute it at one input. -/
def backoffWaitsWrong : ChangeSpec := { name := "backoffWaits", fn := fun _ => fun
  | [d1, d2, d3, d4, d5] => { results := [.lit (.bool false)], args := [d1, d2, d3, d4, d5] }
  | _ => none }
def BackoffWaitsWrongFalsely : Prop := backoffWaitsRow.holds Try.pinned (OpenSpec.ofChange backoffWaitsWrong)

/-- 'signalboxlaw16.BackoffGrows': WHATEVER THE INPUT: true; the input reads as it did. -/
def backoffGrowsSpec : ChangeSpec := { name := "backoffGrows", fn := fun _ => fun
  | [d1, d2, d3] => { results := [.lit (.bool true)], args := [d1, d2, d3] }
  | _ => none }
def backoffGrowsRow : OpenClaim := { program := "ytblpfaapkemnjaa", sum := "8fa21141fe5d24e6b69e60f4a2a3e3a611dfb389eb7772f549676724a989d778", func := "signalbox/signalboxlaw16.BackoffGrows", spec := "backoffGrows", inPlace := ["math/bits.Add64"], named := ["math/bits.divideError", "math/bits.overflowError"], apart := false }
def BackoffGrowsSaid : Prop := backoffGrowsRow.holds Try.pinned (OpenSpec.ofChange backoffGrowsSpec)

/-- ITS FALSE NEIGHBOUR: 'it returns false'. Refute it at one input. -/
def backoffGrowsWrong : ChangeSpec := { name := "backoffGrows", fn := fun _ => fun
  | [d1, d2, d3] => { results := [.lit (.bool false)], args := [d1, d2, d3] }
  | _ => none }
def BackoffGrowsWrongFalsely : Prop := backoffGrowsRow.holds Try.pinned (OpenSpec.ofChange backoffGrowsWrong)

/-- 'signalboxlaw16.BackoffNear': WHATEVER THE INPUT: true; the input reads as it did. -/
def backoffNearSpec : ChangeSpec := { name := "backoffNear", fn := fun _ => fun
  | [d1, d2, d3, d4, d5] => { results := [.lit (.bool true)], args := [d1, d2, d3, d4, d5] }
  | _ => none }
def backoffNearRow : OpenClaim := { program := "ytblpfaapkemnjaa", sum := "8fa21141fe5d24e6b69e60f4a2a3e3a611dfb389eb7772f549676724a989d778", func := "signalbox/signalboxlaw16.BackoffNear", spec := "backoffNear", inPlace := ["math/bits.Add64"], named := ["math/bits.divideError", "math/bits.overflowError"], apart := false }
def BackoffNearSaid : Prop := backoffNearRow.holds Try.pinned (OpenSpec.ofChange backoffNearSpec)

/-- ITS FALSE NEIGHBOUR: 'it returns false'. Refute it at one input. -/
def backoffNearWrong : ChangeSpec := { name := "backoffNear", fn := fun _ => fun
  | [d1, d2, d3, d4, d5] => { results := [.lit (.bool false)], args := [d1, d2, d3, d4, d5] }
  | _ => none }
def BackoffNearWrongFalsely : Prop := backoffNearRow.holds Try.pinned (OpenSpec.ofChange backoffNearWrong)

/-- 'signalboxlaw16.BackoffDraws': WHATEVER THE INPUT: true; the input reads as it did. -/
def backoffDrawsSpec : ChangeSpec := { name := "backoffDraws", fn := fun _ => fun
  | [d1, d2, d3] => { results := [.lit (.bool true)], args := [d1, d2, d3] }
  | _ => none }
def backoffDrawsRow : OpenClaim := { program := "ytblpfaapkemnjaa", sum := "8fa21141fe5d24e6b69e60f4a2a3e3a611dfb389eb7772f549676724a989d778", func := "signalbox/signalboxlaw16.BackoffDraws", spec := "backoffDraws", inPlace := ["math/bits.Add64"], named := ["math/bits.divideError", "math/bits.overflowError"], apart := false }
def BackoffDrawsSaid : Prop := backoffDrawsRow.holds Try.pinned (OpenSpec.ofChange backoffDrawsSpec)

/-- ITS FALSE NEIGHBOUR: 'it returns false'. Refute it at one input. -/
def backoffDrawsWrong : ChangeSpec := { name := "backoffDraws", fn := fun _ => fun
  | [d1, d2, d3] => { results := [.lit (.bool false)], args := [d1, d2, d3] }
  | _ => none }
def BackoffDrawsWrongFalsely : Prop := backoffDrawsRow.holds Try.pinned (OpenSpec.ofChange backoffDrawsWrong)

/- THE SECOND FORM. 'bulk': how many values and letters a reading holds, each counted each time it is reached (what is shared counts as often as it is met; a slice's spare places count too). A statement '..UptoSaid' is the law's where the arguments, and the package variables that the reading takes, are together of bulk at most 1048576: NARROWER than '..Said'. Prove '..Said' where nothing that the law and all that it calls make is longer than what came in: it says more and counts as full. Else prove '..UptoSaid'. A law counts once. -/
mutual
def uptoBulk {H : Type} : DataW H → Nat
  | .lit (.string bytes) => bytes.length + 1
  | .lit _ => 1
  | .nil => 1
  | .ptr d => uptoBulk d + 1
  | .slice elems spare => uptoBulkAll elems + uptoBulkAll spare + 1
  | .agg parts => uptoBulkAll parts + 1
  | .iface _ d => uptoBulk d + 1
  | .map entries => uptoBulkEntries entries + 1
  | .held _ => 1
def uptoBulkAll {H : Type} : List (DataW H) → Nat
  | [] => 0
  | d :: r => uptoBulk d + uptoBulkAll r
def uptoBulkEntries {H : Type} : List (Lit × DataW H) → Nat
  | [] => 0
  | x :: r => uptoBulkEntry x + uptoBulkEntries r
def uptoBulkEntry {H : Type} : Lit × DataW H → Nat
  | (.string bytes, d) => bytes.length + uptoBulk d + 1
  | (_, d) => uptoBulk d + 1
 end
def uptoSmall : (H : Type) → List (DataW H) → Bool := fun _ ds => decide (uptoBulkAll ds ≤ 1048576)
def OpenSpec.upto (s : _root_.Go.ChangeSpec) : _root_.Go.OpenSpec := { _root_.Go.OpenSpec.ofChange s with cond := some uptoSmall }

/-- 'signalboxlaw16.BackoffWaits', WHERE WHAT IT READS IS OF BULK AT MOST 1048576: true; the input reads as it did. -/
def backoffWaitsUptoRow : OpenClaim := { program := "ytblpfaapkemnjaa", sum := "8fa21141fe5d24e6b69e60f4a2a3e3a611dfb389eb7772f549676724a989d778", func := "signalbox/signalboxlaw16.BackoffWaits", spec := "backoffWaits", inPlace := ["math/bits.Add64"], named := ["math/bits.divideError", "math/bits.overflowError"], apart := false, narrowed := true }
def BackoffWaitsUptoSaid : Prop := backoffWaitsUptoRow.holds Try.pinned (OpenSpec.upto backoffWaitsSpec)

/-- 'signalboxlaw16.BackoffGrows', WHERE WHAT IT READS IS OF BULK AT MOST 1048576: true; the input reads as it did. -/
def backoffGrowsUptoRow : OpenClaim := { program := "ytblpfaapkemnjaa", sum := "8fa21141fe5d24e6b69e60f4a2a3e3a611dfb389eb7772f549676724a989d778", func := "signalbox/signalboxlaw16.BackoffGrows", spec := "backoffGrows", inPlace := ["math/bits.Add64"], named := ["math/bits.divideError", "math/bits.overflowError"], apart := false, narrowed := true }
def BackoffGrowsUptoSaid : Prop := backoffGrowsUptoRow.holds Try.pinned (OpenSpec.upto backoffGrowsSpec)

/-- 'signalboxlaw16.BackoffNear', WHERE WHAT IT READS IS OF BULK AT MOST 1048576: true; the input reads as it did. -/
def backoffNearUptoRow : OpenClaim := { program := "ytblpfaapkemnjaa", sum := "8fa21141fe5d24e6b69e60f4a2a3e3a611dfb389eb7772f549676724a989d778", func := "signalbox/signalboxlaw16.BackoffNear", spec := "backoffNear", inPlace := ["math/bits.Add64"], named := ["math/bits.divideError", "math/bits.overflowError"], apart := false, narrowed := true }
def BackoffNearUptoSaid : Prop := backoffNearUptoRow.holds Try.pinned (OpenSpec.upto backoffNearSpec)

/-- 'signalboxlaw16.BackoffDraws', WHERE WHAT IT READS IS OF BULK AT MOST 1048576: true; the input reads as it did. -/
def backoffDrawsUptoRow : OpenClaim := { program := "ytblpfaapkemnjaa", sum := "8fa21141fe5d24e6b69e60f4a2a3e3a611dfb389eb7772f549676724a989d778", func := "signalbox/signalboxlaw16.BackoffDraws", spec := "backoffDraws", inPlace := ["math/bits.Add64"], named := ["math/bits.divideError", "math/bits.overflowError"], apart := false, narrowed := true }
def BackoffDrawsUptoSaid : Prop := backoffDrawsUptoRow.holds Try.pinned (OpenSpec.upto backoffDrawsSpec)

end Rows
end Go.Proofs.Ytblpfaapkemnjaa
