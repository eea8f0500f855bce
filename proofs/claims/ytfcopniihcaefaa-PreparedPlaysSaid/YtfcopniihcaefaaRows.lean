/-
  No cell of these rows narrows 'for every input' (looked for: loops, veiled, ifaces, maps, wideKeys, modest, calm, conditions, laid).
  DERIVED. THE GIVEN ROWS OF THIS SEAT. 4 by the template 'for every input the law returns true; each argument reads behind the call as it read before'; 0 by the template 'total and deterministic' (their statements: YtfcopniihcaefaaTotals.lean).
  GIVEN WITH THE SEED: the statements are not yours to turn. If you find one false, say at which input.
  Laid BY PROGRAM, IN A SANDBOX (cutbox-rows.mjs): the forced cells as the released guide's own fill.sh prints them over the translation 33c9baf39e4bb786… (all of the seat's roots in one cut). By AI agents, Wed Nov 11 2026. No macro, syntax, notation, axiom, sorry.
-/
import Derived.Test.YtfcopniihcaefaaChecked
import GoSem.Claim
import GoSem.ClaimJoined
import GoSem.ClaimMapViews
import Derived.JoinedTies
import Derived.KernelRfl
namespace Go.Proofs.Ytfcopniihcaefaa
/- THE CELL 'sum', in the pinned program and in every row, IS THE sha256 OF THE DUMP (.gsa) THAT YtfcopniihcaefaaProg.lean LOADS. Nothing in Lean hashes anything: it is a label: what it is worth is what the hold of that sum in a sandbox is worth. -/
noncomputable def Try.pinned : Pinned := { name := "ytfcopniihcaefaa", sum := "33c9baf39e4bb78680d348f0012f619bdb15812bceb02bf238ffca5eb4cc7c90", checked := Try.checked }
namespace Rows
def none {H : Type} : Left H := { results := [], args := [] }

/-- 'signalboxlaw20.PreparedPlays': WHATEVER THE INPUT: true; the input reads as it did. -/
def preparedPlaysSpec : ChangeSpec := { name := "preparedPlays", fn := fun _ => fun
  | [d1, d2] => { results := [.lit (.bool true)], args := [d1, d2] }
  | _ => none }
def preparedPlaysRow : OpenClaim := { program := "ytfcopniihcaefaa", sum := "33c9baf39e4bb78680d348f0012f619bdb15812bceb02bf238ffca5eb4cc7c90", func := "signalbox/signalboxlaw20.PreparedPlays", spec := "preparedPlays", unfollowed := true, recurses := true, apart := false }
def PreparedPlaysSaid : Prop := preparedPlaysRow.holds Try.pinned (OpenSpec.ofChange preparedPlaysSpec)

/-- ITS FALSE NEIGHBOUR: 'it returns false'. Refute it at one input. -/
def preparedPlaysWrong : ChangeSpec := { name := "preparedPlays", fn := fun _ => fun
  | [d1, d2] => { results := [.lit (.bool false)], args := [d1, d2] }
  | _ => none }
def PreparedPlaysWrongFalsely : Prop := preparedPlaysRow.holds Try.pinned (OpenSpec.ofChange preparedPlaysWrong)

/-- 'signalboxlaw20.PreparedBounds': WHATEVER THE INPUT: true; the input reads as it did. -/
def preparedBoundsSpec : ChangeSpec := { name := "preparedBounds", fn := fun _ => fun
  | [d1, d2] => { results := [.lit (.bool true)], args := [d1, d2] }
  | _ => none }
def preparedBoundsRow : OpenClaim := { program := "ytfcopniihcaefaa", sum := "33c9baf39e4bb78680d348f0012f619bdb15812bceb02bf238ffca5eb4cc7c90", func := "signalbox/signalboxlaw20.PreparedBounds", spec := "preparedBounds", unfollowed := true, recurses := true, apart := false }
def PreparedBoundsSaid : Prop := preparedBoundsRow.holds Try.pinned (OpenSpec.ofChange preparedBoundsSpec)

/-- ITS FALSE NEIGHBOUR: 'it returns false'. Refute it at one input. -/
def preparedBoundsWrong : ChangeSpec := { name := "preparedBounds", fn := fun _ => fun
  | [d1, d2] => { results := [.lit (.bool false)], args := [d1, d2] }
  | _ => none }
def PreparedBoundsWrongFalsely : Prop := preparedBoundsRow.holds Try.pinned (OpenSpec.ofChange preparedBoundsWrong)

/-- 'signalboxlaw20.PreparedLast': WHATEVER THE INPUT: true; the input reads as it did. -/
def preparedLastSpec : ChangeSpec := { name := "preparedLast", fn := fun _ => fun
  | [d1, d2, d3] => { results := [.lit (.bool true)], args := [d1, d2, d3] }
  | _ => none }
def preparedLastRow : OpenClaim := { program := "ytfcopniihcaefaa", sum := "33c9baf39e4bb78680d348f0012f619bdb15812bceb02bf238ffca5eb4cc7c90", func := "signalbox/signalboxlaw20.PreparedLast", spec := "preparedLast", unfollowed := true, recurses := true, apart := false }
def PreparedLastSaid : Prop := preparedLastRow.holds Try.pinned (OpenSpec.ofChange preparedLastSpec)

/-- ITS FALSE NEIGHBOUR: 'it returns false'. Refute it at one input. -/
def preparedLastWrong : ChangeSpec := { name := "preparedLast", fn := fun _ => fun
  | [d1, d2, d3] => { results := [.lit (.bool false)], args := [d1, d2, d3] }
  | _ => none }
def PreparedLastWrongFalsely : Prop := preparedLastRow.holds Try.pinned (OpenSpec.ofChange preparedLastWrong)

/-- 'signalboxlaw20.PreparedDrops': WHATEVER THE INPUT: true; the input reads as it did. -/
def preparedDropsSpec : ChangeSpec := { name := "preparedDrops", fn := fun _ => fun
  | [d1, d2] => { results := [.lit (.bool true)], args := [d1, d2] }
  | _ => none }
def preparedDropsRow : OpenClaim := { program := "ytfcopniihcaefaa", sum := "33c9baf39e4bb78680d348f0012f619bdb15812bceb02bf238ffca5eb4cc7c90", func := "signalbox/signalboxlaw20.PreparedDrops", spec := "preparedDrops", unfollowed := true, recurses := true, apart := false }
def PreparedDropsSaid : Prop := preparedDropsRow.holds Try.pinned (OpenSpec.ofChange preparedDropsSpec)

/-- ITS FALSE NEIGHBOUR: 'it returns false'. Refute it at one input. -/
def preparedDropsWrong : ChangeSpec := { name := "preparedDrops", fn := fun _ => fun
  | [d1, d2] => { results := [.lit (.bool false)], args := [d1, d2] }
  | _ => none }
def PreparedDropsWrongFalsely : Prop := preparedDropsRow.holds Try.pinned (OpenSpec.ofChange preparedDropsWrong)

/- THE SECOND FORM. 'bulk': how many values and letters a reading holds, each counted each time it is reached (what is shared counts as often as it is met; a slice's spare places count too). A statement '..UptoSaid' is the law's where the arguments, and the package variables that the reading takes, are together of bulk at most 1048576: NARROWER than '..Said'. Prove '..Said' where nothing that the law and all that it calls make is longer than what came in: it says more and counts as full. Else prove '..UptoSaid'. A law counts once. -/
mutual
def uptoBulk {H : Type} : DataW H → Nat
  | .lit (.string bytes) => bytes.length + 1
  | .lit _ => 1
  | .nil => 1
  | .ptr d => uptoBulk d + 1
  | .slice elems spare => uptoBulkAll elems + uptoBulkAll spare + 1
  | .agg parts => uptoBulkAll parts + 1
  | .iface _ d => uptoBulk d + 1
  | .map entries => uptoBulkEntries entries + 1
  | .held _ => 1
def uptoBulkAll {H : Type} : List (DataW H) → Nat
  | [] => 0
  | d :: r => uptoBulk d + uptoBulkAll r
def uptoBulkEntries {H : Type} : List (Lit × DataW H) → Nat
  | [] => 0
  | x :: r => uptoBulkEntry x + uptoBulkEntries r
def uptoBulkEntry {H : Type} : Lit × DataW H → Nat
  | (.string bytes, d) => bytes.length + uptoBulk d + 1
  | (_, d) => uptoBulk d + 1
 end
def uptoSmall : (H : Type) → List (DataW H) → Bool := fun _ ds => decide (uptoBulkAll ds ≤ 1048576)
def OpenSpec.upto (s : _root_.Go.ChangeSpec) : _root_.Go.OpenSpec := { _root_.Go.OpenSpec.ofChange s with cond := some uptoSmall }

/-- 'signalboxlaw20.PreparedPlays', WHERE WHAT IT READS IS OF BULK AT MOST 1048576: true; the input reads as it did. -/
def preparedPlaysUptoRow : OpenClaim := { program := "ytfcopniihcaefaa", sum := "33c9baf39e4bb78680d348f0012f619bdb15812bceb02bf238ffca5eb4cc7c90", func := "signalbox/signalboxlaw20.PreparedPlays", spec := "preparedPlays", unfollowed := true, recurses := true, apart := false, narrowed := true }
def PreparedPlaysUptoSaid : Prop := preparedPlaysUptoRow.holds Try.pinned (OpenSpec.upto preparedPlaysSpec)

/-- 'signalboxlaw20.PreparedBounds', WHERE WHAT IT READS IS OF BULK AT MOST 1048576: true; the input reads as it did. -/
def preparedBoundsUptoRow : OpenClaim := { program := "ytfcopniihcaefaa", sum := "33c9baf39e4bb78680d348f0012f619bdb15812bceb02bf238ffca5eb4cc7c90", func := "signalbox/signalboxlaw20.PreparedBounds", spec := "preparedBounds", unfollowed := true, recurses := true, apart := false, narrowed := true }
def PreparedBoundsUptoSaid : Prop := preparedBoundsUptoRow.holds Try.pinned (OpenSpec.upto preparedBoundsSpec)

/-- 'signalboxlaw20.PreparedLast', WHERE WHAT IT READS IS OF BULK AT MOST 1048576: true; the input reads as it did. -/
def preparedLastUptoRow : OpenClaim := { program := "ytfcopniihcaefaa", sum := "33c9baf39e4bb78680d348f0012f619bdb15812bceb02bf238ffca5eb4cc7c90", func := "signalbox/signalboxlaw20.PreparedLast", spec := "preparedLast", unfollowed := true, recurses := true, apart := false, narrowed := true }
def PreparedLastUptoSaid : Prop := preparedLastUptoRow.holds Try.pinned (OpenSpec.upto preparedLastSpec)

/-- 'signalboxlaw20.PreparedDrops', WHERE WHAT IT READS IS OF BULK AT MOST 1048576: true; the input reads as it did. -/
def preparedDropsUptoRow : OpenClaim := { program := "ytfcopniihcaefaa", sum := "33c9baf39e4bb78680d348f0012f619bdb15812bceb02bf238ffca5eb4cc7c90", func := "signalbox/signalboxlaw20.PreparedDrops", spec := "preparedDrops", unfollowed := true, recurses := true, apart := false, narrowed := true }
def PreparedDropsUptoSaid : Prop := preparedDropsUptoRow.holds Try.pinned (OpenSpec.upto preparedDropsSpec)

end Rows
end Go.Proofs.Ytfcopniihcaefaa
