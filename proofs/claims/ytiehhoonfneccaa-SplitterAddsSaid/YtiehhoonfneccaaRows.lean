/-
  No cell of these rows narrows 'for every input' (looked for: loops, veiled, ifaces, maps, wideKeys, modest, calm, conditions, laid).
  DERIVED. THE GIVEN ROWS OF THIS SEAT. 12 by the template 'for every input the law returns true; each argument reads behind the call as it read before'; 0 by the template 'total and deterministic' (their statements: YtiehhoonfneccaaTotals.lean).
  GIVEN WITH THE SEED: the statements are not yours to turn. If you find one false, say at which input.
  Laid BY PROGRAM, IN A SANDBOX (cutbox-rows.mjs): the forced cells as the released guide's own fill.sh prints them over the translation 376d852d2c3a5222… (all of the seat's roots in one cut). By AI agents, Wed Nov 11 2026. No macro, syntax, notation, axiom, sorry.
-/
import Derived.Test.YtiehhoonfneccaaChecked
import GoSem.Claim
import GoSem.ClaimJoined
import GoSem.ClaimMapViews
import Derived.JoinedTies
import Derived.KernelRfl
namespace Go.Proofs.Ytiehhoonfneccaa
/- THE CELL 'sum', in the pinned program and in every row, IS THE sha256 OF THE DUMP (.gsa) THAT YtiehhoonfneccaaProg.lean LOADS. Nothing in Lean hashes anything: it is a label: what it is worth is what the hold of that sum in a sandbox is worth. -/
noncomputable def Try.pinned : Pinned := { name := "ytiehhoonfneccaa", sum := "376d852d2c3a52227dfa97d7f8ff07a0c1a8a11fc3f33ea6118fb690f600a71d", checked := Try.checked }
namespace Rows
def none {H : Type} : Left H := { results := [], args := [] }

/-- 'signalboxlaw05.HeaderPuts': WHATEVER THE INPUT: true; the input reads as it did. -/
def headerPutsSpec : ChangeSpec := { name := "headerPuts", fn := fun _ => fun
  | [d] => { results := [.lit (.bool true)], args := [d] }
  | _ => none }
def headerPutsRow : OpenClaim := { program := "ytiehhoonfneccaa", sum := "376d852d2c3a52227dfa97d7f8ff07a0c1a8a11fc3f33ea6118fb690f600a71d", func := "signalbox/signalboxlaw05.HeaderPuts", spec := "headerPuts", apart := false }
def HeaderPutsSaid : Prop := headerPutsRow.holds Try.pinned (OpenSpec.ofChange headerPutsSpec)

/-- ITS FALSE NEIGHBOUR: 'it returns false'. Refute it at one input. -/
def headerPutsWrong : ChangeSpec := { name := "headerPuts", fn := fun _ => fun
  | [d] => { results := [.lit (.bool false)], args := [d] }
  | _ => none }
def HeaderPutsWrongFalsely : Prop := headerPutsRow.holds Try.pinned (OpenSpec.ofChange headerPutsWrong)

/-- 'signalboxlaw05.HeaderGets': WHATEVER THE INPUT: true; the input reads as it did. -/
def headerGetsSpec : ChangeSpec := { name := "headerGets", fn := fun _ => fun
  | [d] => { results := [.lit (.bool true)], args := [d] }
  | _ => none }
def headerGetsRow : OpenClaim := { program := "ytiehhoonfneccaa", sum := "376d852d2c3a52227dfa97d7f8ff07a0c1a8a11fc3f33ea6118fb690f600a71d", func := "signalbox/signalboxlaw05.HeaderGets", spec := "headerGets", apart := false }
def HeaderGetsSaid : Prop := headerGetsRow.holds Try.pinned (OpenSpec.ofChange headerGetsSpec)

/-- ITS FALSE NEIGHBOUR: 'it returns false'. Refute it at one input. -/
def headerGetsWrong : ChangeSpec := { name := "headerGets", fn := fun _ => fun
  | [d] => { results := [.lit (.bool false)], args := [d] }
  | _ => none }
def HeaderGetsWrongFalsely : Prop := headerGetsRow.holds Try.pinned (OpenSpec.ofChange headerGetsWrong)

/-- 'signalboxlaw05.HeaderBack': WHATEVER THE INPUT: true; the input reads as it did. -/
def headerBackSpec : ChangeSpec := { name := "headerBack", fn := fun _ => fun
  | [d1, d2] => { results := [.lit (.bool true)], args := [d1, d2] }
  | _ => none }
def headerBackRow : OpenClaim := { program := "ytiehhoonfneccaa", sum := "376d852d2c3a52227dfa97d7f8ff07a0c1a8a11fc3f33ea6118fb690f600a71d", func := "signalbox/signalboxlaw05.HeaderBack", spec := "headerBack", apart := false }
def HeaderBackSaid : Prop := headerBackRow.holds Try.pinned (OpenSpec.ofChange headerBackSpec)

/-- ITS FALSE NEIGHBOUR: 'it returns false'. Refute it at one input. -/
def headerBackWrong : ChangeSpec := { name := "headerBack", fn := fun _ => fun
  | [d1, d2] => { results := [.lit (.bool false)], args := [d1, d2] }
  | _ => none }
def HeaderBackWrongFalsely : Prop := headerBackRow.holds Try.pinned (OpenSpec.ofChange headerBackWrong)

/-- 'signalboxlaw05.HeaderFields': WHATEVER THE INPUT: true; the input reads as it did. -/
def headerFieldsSpec : ChangeSpec := { name := "headerFields", fn := fun _ => fun
  | [d1, d2] => { results := [.lit (.bool true)], args := [d1, d2] }
  | _ => none }
def headerFieldsRow : OpenClaim := { program := "ytiehhoonfneccaa", sum := "376d852d2c3a52227dfa97d7f8ff07a0c1a8a11fc3f33ea6118fb690f600a71d", func := "signalbox/signalboxlaw05.HeaderFields", spec := "headerFields", apart := false }
def HeaderFieldsSaid : Prop := headerFieldsRow.holds Try.pinned (OpenSpec.ofChange headerFieldsSpec)

/-- ITS FALSE NEIGHBOUR: 'it returns false'. Refute it at one input. -/
def headerFieldsWrong : ChangeSpec := { name := "headerFields", fn := fun _ => fun
  | [d1, d2] => { results := [.lit (.bool false)], args := [d1, d2] }
  | _ => none }
def HeaderFieldsWrongFalsely : Prop := headerFieldsRow.holds Try.pinned (OpenSpec.ofChange headerFieldsWrong)

/-- 'signalboxlaw05.HeaderKinds': WHATEVER THE INPUT: true; the input reads as it did. -/
def headerKindsSpec : ChangeSpec := { name := "headerKinds", fn := fun _ => fun
  | [d1, d2, d3, d4] => { results := [.lit (.bool true)], args := [d1, d2, d3, d4] }
  | _ => none }
def headerKindsRow : OpenClaim := { program := "ytiehhoonfneccaa", sum := "376d852d2c3a52227dfa97d7f8ff07a0c1a8a11fc3f33ea6118fb690f600a71d", func := "signalbox/signalboxlaw05.HeaderKinds", spec := "headerKinds", apart := false }
def HeaderKindsSaid : Prop := headerKindsRow.holds Try.pinned (OpenSpec.ofChange headerKindsSpec)

/-- ITS FALSE NEIGHBOUR: 'it returns false'. Refute it at one input. -/
def headerKindsWrong : ChangeSpec := { name := "headerKinds", fn := fun _ => fun
  | [d1, d2, d3, d4] => { results := [.lit (.bool false)], args := [d1, d2, d3, d4] }
  | _ => none }
def HeaderKindsWrongFalsely : Prop := headerKindsRow.holds Try.pinned (OpenSpec.ofChange headerKindsWrong)

/-- 'signalboxlaw06.SplitterAdds': WHATEVER THE INPUT: true; the input reads as it did. -/
def splitterAddsSpec : ChangeSpec := { name := "splitterAdds", fn := fun _ => fun
  | [d1, d2] => { results := [.lit (.bool true)], args := [d1, d2] }
  | _ => none }
def splitterAddsRow : OpenClaim := { program := "ytiehhoonfneccaa", sum := "376d852d2c3a52227dfa97d7f8ff07a0c1a8a11fc3f33ea6118fb690f600a71d", func := "signalbox/signalboxlaw06.SplitterAdds", spec := "splitterAdds", apart := false }
def SplitterAddsSaid : Prop := splitterAddsRow.holds Try.pinned (OpenSpec.ofChange splitterAddsSpec)

/-- ITS FALSE NEIGHBOUR: 'it returns false'. Refute it at one input. -/
def splitterAddsWrong : ChangeSpec := { name := "splitterAdds", fn := fun _ => fun
  | [d1, d2] => { results := [.lit (.bool false)], args := [d1, d2] }
  | _ => none }
def SplitterAddsWrongFalsely : Prop := splitterAddsRow.holds Try.pinned (OpenSpec.ofChange splitterAddsWrong)

/-- 'signalboxlaw06.SplitterPieces': WHATEVER THE INPUT: true; the input reads as it did. -/
def splitterPiecesSpec : ChangeSpec := { name := "splitterPieces", fn := fun _ => fun
  | [d1, d2, d3] => { results := [.lit (.bool true)], args := [d1, d2, d3] }
  | _ => none }
def splitterPiecesRow : OpenClaim := { program := "ytiehhoonfneccaa", sum := "376d852d2c3a52227dfa97d7f8ff07a0c1a8a11fc3f33ea6118fb690f600a71d", func := "signalbox/signalboxlaw06.SplitterPieces", spec := "splitterPieces", apart := false }
def SplitterPiecesSaid : Prop := splitterPiecesRow.holds Try.pinned (OpenSpec.ofChange splitterPiecesSpec)

/-- ITS FALSE NEIGHBOUR: 'it returns false'. Refute it at one input. -/
def splitterPiecesWrong : ChangeSpec := { name := "splitterPieces", fn := fun _ => fun
  | [d1, d2, d3] => { results := [.lit (.bool false)], args := [d1, d2, d3] }
  | _ => none }
def SplitterPiecesWrongFalsely : Prop := splitterPiecesRow.holds Try.pinned (OpenSpec.ofChange splitterPiecesWrong)

/-- 'signalboxlaw06.SplitterJoins': WHATEVER THE INPUT: true; the input reads as it did. -/
def splitterJoinsSpec : ChangeSpec := { name := "splitterJoins", fn := fun _ => fun
  | [d1, d2] => { results := [.lit (.bool true)], args := [d1, d2] }
  | _ => none }
def splitterJoinsRow : OpenClaim := { program := "ytiehhoonfneccaa", sum := "376d852d2c3a52227dfa97d7f8ff07a0c1a8a11fc3f33ea6118fb690f600a71d", func := "signalbox/signalboxlaw06.SplitterJoins", spec := "splitterJoins", apart := false }
def SplitterJoinsSaid : Prop := splitterJoinsRow.holds Try.pinned (OpenSpec.ofChange splitterJoinsSpec)

/-- ITS FALSE NEIGHBOUR: 'it returns false'. Refute it at one input. -/
def splitterJoinsWrong : ChangeSpec := { name := "splitterJoins", fn := fun _ => fun
  | [d1, d2] => { results := [.lit (.bool false)], args := [d1, d2] }
  | _ => none }
def SplitterJoinsWrongFalsely : Prop := splitterJoinsRow.holds Try.pinned (OpenSpec.ofChange splitterJoinsWrong)

/-- 'signalboxlaw06.SplitterNone': WHATEVER THE INPUT: true; the input reads as it did. -/
def splitterNoneSpec : ChangeSpec := { name := "splitterNone", fn := fun _ => fun
  | [d1, d2] => { results := [.lit (.bool true)], args := [d1, d2] }
  | _ => none }
def splitterNoneRow : OpenClaim := { program := "ytiehhoonfneccaa", sum := "376d852d2c3a52227dfa97d7f8ff07a0c1a8a11fc3f33ea6118fb690f600a71d", func := "signalbox/signalboxlaw06.SplitterNone", spec := "splitterNone", apart := false }
def SplitterNoneSaid : Prop := splitterNoneRow.holds Try.pinned (OpenSpec.ofChange splitterNoneSpec)

/-- ITS FALSE NEIGHBOUR: 'it returns false'. Refute it at one input. -/
def splitterNoneWrong : ChangeSpec := { name := "splitterNone", fn := fun _ => fun
  | [d1, d2] => { results := [.lit (.bool false)], args := [d1, d2] }
  | _ => none }
def SplitterNoneWrongFalsely : Prop := splitterNoneRow.holds Try.pinned (OpenSpec.ofChange splitterNoneWrong)

/-- 'signalboxlaw06.SplitterWaits': WHATEVER THE INPUT: true; the input reads as it did. -/
def splitterWaitsSpec : ChangeSpec := { name := "splitterWaits", fn := fun _ => fun
  | [d1, d2, d3] => { results := [.lit (.bool true)], args := [d1, d2, d3] }
  | _ => none }
def splitterWaitsRow : OpenClaim := { program := "ytiehhoonfneccaa", sum := "376d852d2c3a52227dfa97d7f8ff07a0c1a8a11fc3f33ea6118fb690f600a71d", func := "signalbox/signalboxlaw06.SplitterWaits", spec := "splitterWaits", apart := false }
def SplitterWaitsSaid : Prop := splitterWaitsRow.holds Try.pinned (OpenSpec.ofChange splitterWaitsSpec)

/-- ITS FALSE NEIGHBOUR: 'it returns false'. Refute it at one input. -/
def splitterWaitsWrong : ChangeSpec := { name := "splitterWaits", fn := fun _ => fun
  | [d1, d2, d3] => { results := [.lit (.bool false)], args := [d1, d2, d3] }
  | _ => none }
def SplitterWaitsWrongFalsely : Prop := splitterWaitsRow.holds Try.pinned (OpenSpec.ofChange splitterWaitsWrong)

/-- 'signalboxlaw06.SplitterWrong': WHATEVER THE INPUT: true; the input reads as it did. -/
def splitterWrongSpec : ChangeSpec := { name := "splitterWrong", fn := fun _ => fun
  | [d1, d2, d3] => { results := [.lit (.bool true)], args := [d1, d2, d3] }
  | _ => none }
def splitterWrongRow : OpenClaim := { program := "ytiehhoonfneccaa", sum := "376d852d2c3a52227dfa97d7f8ff07a0c1a8a11fc3f33ea6118fb690f600a71d", func := "signalbox/signalboxlaw06.SplitterWrong", spec := "splitterWrong", apart := false }
def SplitterWrongSaid : Prop := splitterWrongRow.holds Try.pinned (OpenSpec.ofChange splitterWrongSpec)

/-- ITS FALSE NEIGHBOUR: 'it returns false'. Refute it at one input. -/
def splitterWrongWrong : ChangeSpec := { name := "splitterWrong", fn := fun _ => fun
  | [d1, d2, d3] => { results := [.lit (.bool false)], args := [d1, d2, d3] }
  | _ => none }
def SplitterWrongWrongFalsely : Prop := splitterWrongRow.holds Try.pinned (OpenSpec.ofChange splitterWrongWrong)

/-- 'signalboxlaw06.SplitterMany': WHATEVER THE INPUT: true; the input reads as it did. -/
def splitterManySpec : ChangeSpec := { name := "splitterMany", fn := fun _ => fun
  | [d1, d2, d3] => { results := [.lit (.bool true)], args := [d1, d2, d3] }
  | _ => none }
def splitterManyRow : OpenClaim := { program := "ytiehhoonfneccaa", sum := "376d852d2c3a52227dfa97d7f8ff07a0c1a8a11fc3f33ea6118fb690f600a71d", func := "signalbox/signalboxlaw06.SplitterMany", spec := "splitterMany", apart := false }
def SplitterManySaid : Prop := splitterManyRow.holds Try.pinned (OpenSpec.ofChange splitterManySpec)

/-- ITS FALSE NEIGHBOUR: 'it returns false'. Refute it at one input. -/
def splitterManyWrong : ChangeSpec := { name := "splitterMany", fn := fun _ => fun
  | [d1, d2, d3] => { results := [.lit (.bool false)], args := [d1, d2, d3] }
  | _ => none }
def SplitterManyWrongFalsely : Prop := splitterManyRow.holds Try.pinned (OpenSpec.ofChange splitterManyWrong)

/- THE SECOND FORM. 'bulk': how many values and letters a reading holds, each counted each time it is reached (what is shared counts as often as it is met; a slice's spare places count too). A statement '..UptoSaid' is the law's where the arguments, and the package variables that the reading takes, are together of bulk at most 1048576: NARROWER than '..Said'. Prove '..Said' where nothing that the law and all that it calls make is longer than what came in: it says more and counts as full. Else prove '..UptoSaid'. A law counts once. -/
mutual
def uptoBulk {H : Type} : DataW H → Nat
  | .lit (.string bytes) => bytes.length + 1
  | .lit _ => 1
  | .nil => 1
  | .ptr d => uptoBulk d + 1
  | .slice elems spare => uptoBulkAll elems + uptoBulkAll spare + 1
  | .agg parts => uptoBulkAll parts + 1
  | .iface _ d => uptoBulk d + 1
  | .map entries => uptoBulkEntries entries + 1
  | .held _ => 1
def uptoBulkAll {H : Type} : List (DataW H) → Nat
  | [] => 0
  | d :: r => uptoBulk d + uptoBulkAll r
def uptoBulkEntries {H : Type} : List (Lit × DataW H) → Nat
  | [] => 0
  | x :: r => uptoBulkEntry x + uptoBulkEntries r
def uptoBulkEntry {H : Type} : Lit × DataW H → Nat
  | (.string bytes, d) => bytes.length + uptoBulk d + 1
  | (_, d) => uptoBulk d + 1
 end
def uptoSmall : (H : Type) → List (DataW H) → Bool := fun _ ds => decide (uptoBulkAll ds ≤ 1048576)
def OpenSpec.upto (s : _root_.Go.ChangeSpec) : _root_.Go.OpenSpec := { _root_.Go.OpenSpec.ofChange s with cond := some uptoSmall }

/-- 'signalboxlaw05.HeaderPuts', WHERE WHAT IT READS IS OF BULK AT MOST 1048576: true; the input reads as it did. -/
def headerPutsUptoRow : OpenClaim := { program := "ytiehhoonfneccaa", sum := "376d852d2c3a52227dfa97d7f8ff07a0c1a8a11fc3f33ea6118fb690f600a71d", func := "signalbox/signalboxlaw05.HeaderPuts", spec := "headerPuts", apart := false, narrowed := true }
def HeaderPutsUptoSaid : Prop := headerPutsUptoRow.holds Try.pinned (OpenSpec.upto headerPutsSpec)

/-- 'signalboxlaw05.HeaderGets', WHERE WHAT IT READS IS OF BULK AT MOST 1048576: true; the input reads as it did. -/
def headerGetsUptoRow : OpenClaim := { program := "ytiehhoonfneccaa", sum := "376d852d2c3a52227dfa97d7f8ff07a0c1a8a11fc3f33ea6118fb690f600a71d", func := "signalbox/signalboxlaw05.HeaderGets", spec := "headerGets", apart := false, narrowed := true }
def HeaderGetsUptoSaid : Prop := headerGetsUptoRow.holds Try.pinned (OpenSpec.upto headerGetsSpec)

/-- 'signalboxlaw05.HeaderBack', WHERE WHAT IT READS IS OF BULK AT MOST 1048576: true; the input reads as it did. -/
def headerBackUptoRow : OpenClaim := { program := "ytiehhoonfneccaa", sum := "376d852d2c3a52227dfa97d7f8ff07a0c1a8a11fc3f33ea6118fb690f600a71d", func := "signalbox/signalboxlaw05.HeaderBack", spec := "headerBack", apart := false, narrowed := true }
def HeaderBackUptoSaid : Prop := headerBackUptoRow.holds Try.pinned (OpenSpec.upto headerBackSpec)

/-- 'signalboxlaw05.HeaderFields', WHERE WHAT IT READS IS OF BULK AT MOST 1048576: true; the input reads as it did. -/
def headerFieldsUptoRow : OpenClaim := { program := "ytiehhoonfneccaa", sum := "376d852d2c3a52227dfa97d7f8ff07a0c1a8a11fc3f33ea6118fb690f600a71d", func := "signalbox/signalboxlaw05.HeaderFields", spec := "headerFields", apart := false, narrowed := true }
def HeaderFieldsUptoSaid : Prop := headerFieldsUptoRow.holds Try.pinned (OpenSpec.upto headerFieldsSpec)

/-- 'signalboxlaw05.HeaderKinds', WHERE WHAT IT READS IS OF BULK AT MOST 1048576: true; the input reads as it did. -/
def headerKindsUptoRow : OpenClaim := { program := "ytiehhoonfneccaa", sum := "376d852d2c3a52227dfa97d7f8ff07a0c1a8a11fc3f33ea6118fb690f600a71d", func := "signalbox/signalboxlaw05.HeaderKinds", spec := "headerKinds", apart := false, narrowed := true }
def HeaderKindsUptoSaid : Prop := headerKindsUptoRow.holds Try.pinned (OpenSpec.upto headerKindsSpec)

/-- 'signalboxlaw06.SplitterAdds', WHERE WHAT IT READS IS OF BULK AT MOST 1048576: true; the input reads as it did. -/
def splitterAddsUptoRow : OpenClaim := { program := "ytiehhoonfneccaa", sum := "376d852d2c3a52227dfa97d7f8ff07a0c1a8a11fc3f33ea6118fb690f600a71d", func := "signalbox/signalboxlaw06.SplitterAdds", spec := "splitterAdds", apart := false, narrowed := true }
def SplitterAddsUptoSaid : Prop := splitterAddsUptoRow.holds Try.pinned (OpenSpec.upto splitterAddsSpec)

/-- 'signalboxlaw06.SplitterPieces', WHERE WHAT IT READS IS OF BULK AT MOST 1048576: true; the input reads as it did. -/
def splitterPiecesUptoRow : OpenClaim := { program := "ytiehhoonfneccaa", sum := "376d852d2c3a52227dfa97d7f8ff07a0c1a8a11fc3f33ea6118fb690f600a71d", func := "signalbox/signalboxlaw06.SplitterPieces", spec := "splitterPieces", apart := false, narrowed := true }
def SplitterPiecesUptoSaid : Prop := splitterPiecesUptoRow.holds Try.pinned (OpenSpec.upto splitterPiecesSpec)

/-- 'signalboxlaw06.SplitterJoins', WHERE WHAT IT READS IS OF BULK AT MOST 1048576: true; the input reads as it did. -/
def splitterJoinsUptoRow : OpenClaim := { program := "ytiehhoonfneccaa", sum := "376d852d2c3a52227dfa97d7f8ff07a0c1a8a11fc3f33ea6118fb690f600a71d", func := "signalbox/signalboxlaw06.SplitterJoins", spec := "splitterJoins", apart := false, narrowed := true }
def SplitterJoinsUptoSaid : Prop := splitterJoinsUptoRow.holds Try.pinned (OpenSpec.upto splitterJoinsSpec)

/-- 'signalboxlaw06.SplitterNone', WHERE WHAT IT READS IS OF BULK AT MOST 1048576: true; the input reads as it did. -/
def splitterNoneUptoRow : OpenClaim := { program := "ytiehhoonfneccaa", sum := "376d852d2c3a52227dfa97d7f8ff07a0c1a8a11fc3f33ea6118fb690f600a71d", func := "signalbox/signalboxlaw06.SplitterNone", spec := "splitterNone", apart := false, narrowed := true }
def SplitterNoneUptoSaid : Prop := splitterNoneUptoRow.holds Try.pinned (OpenSpec.upto splitterNoneSpec)

/-- 'signalboxlaw06.SplitterWaits', WHERE WHAT IT READS IS OF BULK AT MOST 1048576: true; the input reads as it did. -/
def splitterWaitsUptoRow : OpenClaim := { program := "ytiehhoonfneccaa", sum := "376d852d2c3a52227dfa97d7f8ff07a0c1a8a11fc3f33ea6118fb690f600a71d", func := "signalbox/signalboxlaw06.SplitterWaits", spec := "splitterWaits", apart := false, narrowed := true }
def SplitterWaitsUptoSaid : Prop := splitterWaitsUptoRow.holds Try.pinned (OpenSpec.upto splitterWaitsSpec)

/-- 'signalboxlaw06.SplitterWrong', WHERE WHAT IT READS IS OF BULK AT MOST 1048576: true; the input reads as it did. -/
def splitterWrongUptoRow : OpenClaim := { program := "ytiehhoonfneccaa", sum := "376d852d2c3a52227dfa97d7f8ff07a0c1a8a11fc3f33ea6118fb690f600a71d", func := "signalbox/signalboxlaw06.SplitterWrong", spec := "splitterWrong", apart := false, narrowed := true }
def SplitterWrongUptoSaid : Prop := splitterWrongUptoRow.holds Try.pinned (OpenSpec.upto splitterWrongSpec)

/-- 'signalboxlaw06.SplitterMany', WHERE WHAT IT READS IS OF BULK AT MOST 1048576: true; the input reads as it did. -/
def splitterManyUptoRow : OpenClaim := { program := "ytiehhoonfneccaa", sum := "376d852d2c3a52227dfa97d7f8ff07a0c1a8a11fc3f33ea6118fb690f600a71d", func := "signalbox/signalboxlaw06.SplitterMany", spec := "splitterMany", apart := false, narrowed := true }
def SplitterManyUptoSaid : Prop := splitterManyUptoRow.holds Try.pinned (OpenSpec.upto splitterManySpec)

end Rows
end Go.Proofs.Ytiehhoonfneccaa
