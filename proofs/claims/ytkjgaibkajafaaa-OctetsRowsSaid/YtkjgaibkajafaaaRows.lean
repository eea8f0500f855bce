/-
  No cell of these rows narrows 'for every input' (looked for: loops, veiled, ifaces, maps, wideKeys, modest, calm, conditions, laid).
  DERIVED. THE GIVEN ROWS OF THIS SEAT. 5 by the template 'for every input the law returns true; each argument reads behind the call as it read before'; 0 by the template 'total and deterministic' (their statements: YtkjgaibkajafaaaTotals.lean).
  GIVEN WITH THE SEED: the statements are not yours to turn. If you find one false, say at which input.
  Laid BY PROGRAM, IN A SANDBOX (cutbox-rows.mjs): the forced cells as the released guide's own fill.sh prints them over the translation 1e0fe1d1656163cc… (all of the seat's roots in one cut). By AI agents, Wed Nov 11 2026. No macro, syntax, notation, axiom, sorry.
-/
import Derived.Test.YtkjgaibkajafaaaChecked
import GoSem.Claim
import GoSem.ClaimJoined
import GoSem.ClaimMapViews
import Derived.JoinedTies
import Derived.KernelRfl
namespace Go.Proofs.Ytkjgaibkajafaaa
/- THE CELL 'sum', in the pinned program and in every row, IS THE sha256 OF THE DUMP (.gsa) THAT YtkjgaibkajafaaaProg.lean LOADS. Nothing in Lean hashes anything: it is a label: what it is worth is what the hold of that sum in a sandbox is worth. -/
noncomputable def Try.pinned : Pinned := { name := "ytkjgaibkajafaaa", sum := "1e0fe1d1656163cc47b457d55b63f630f6b89bb0528ad3e254eac77bea447df3", checked := Try.checked }
namespace Rows
def none {H : Type} : Left H := { results := [], args := [] }

/-- 'signalboxlaw01.OctetsPuts': WHATEVER THE INPUT: true; the input reads as it did. -/
def octetsPutsSpec : ChangeSpec := { name := "octetsPuts", fn := fun _ => fun
  | [d1, d2, d3] => { results := [.lit (.bool true)], args := [d1, d2, d3] }
  | _ => none }
def octetsPutsRow : OpenClaim := { program := "ytkjgaibkajafaaa", sum := "1e0fe1d1656163cc47b457d55b63f630f6b89bb0528ad3e254eac77bea447df3", func := "signalbox/signalboxlaw01.OctetsPuts", spec := "octetsPuts", apart := false }
def OctetsPutsSaid : Prop := octetsPutsRow.holds Try.pinned (OpenSpec.ofChange octetsPutsSpec)

/-- ITS FALSE NEIGHBOUR: 'it returns false'. Refute it at one input. -/
def octetsPutsWrong : ChangeSpec := { name := "octetsPuts", fn := fun _ => fun
  | [d1, d2, d3] => { results := [.lit (.bool false)], args := [d1, d2, d3] }
  | _ => none }
def OctetsPutsWrongFalsely : Prop := octetsPutsRow.holds Try.pinned (OpenSpec.ofChange octetsPutsWrong)

/-- 'signalboxlaw01.OctetsGets': WHATEVER THE INPUT: true; the input reads as it did. -/
def octetsGetsSpec : ChangeSpec := { name := "octetsGets", fn := fun _ => fun
  | [d1, d2] => { results := [.lit (.bool true)], args := [d1, d2] }
  | _ => none }
def octetsGetsRow : OpenClaim := { program := "ytkjgaibkajafaaa", sum := "1e0fe1d1656163cc47b457d55b63f630f6b89bb0528ad3e254eac77bea447df3", func := "signalbox/signalboxlaw01.OctetsGets", spec := "octetsGets", apart := false }
def OctetsGetsSaid : Prop := octetsGetsRow.holds Try.pinned (OpenSpec.ofChange octetsGetsSpec)

/-- ITS FALSE NEIGHBOUR: 'it returns false'. Refute it at one input. -/
def octetsGetsWrong : ChangeSpec := { name := "octetsGets", fn := fun _ => fun
  | [d1, d2] => { results := [.lit (.bool false)], args := [d1, d2] }
  | _ => none }
def OctetsGetsWrongFalsely : Prop := octetsGetsRow.holds Try.pinned (OpenSpec.ofChange octetsGetsWrong)

/-- 'signalboxlaw01.OctetsTakes': WHATEVER THE INPUT: true; the input reads as it did. -/
def octetsTakesSpec : ChangeSpec := { name := "octetsTakes", fn := fun _ => fun
  | [d1, d2] => { results := [.lit (.bool true)], args := [d1, d2] }
  | _ => none }
def octetsTakesRow : OpenClaim := { program := "ytkjgaibkajafaaa", sum := "1e0fe1d1656163cc47b457d55b63f630f6b89bb0528ad3e254eac77bea447df3", func := "signalbox/signalboxlaw01.OctetsTakes", spec := "octetsTakes", apart := false }
def OctetsTakesSaid : Prop := octetsTakesRow.holds Try.pinned (OpenSpec.ofChange octetsTakesSpec)

/-- ITS FALSE NEIGHBOUR: 'it returns false'. Refute it at one input. -/
def octetsTakesWrong : ChangeSpec := { name := "octetsTakes", fn := fun _ => fun
  | [d1, d2] => { results := [.lit (.bool false)], args := [d1, d2] }
  | _ => none }
def OctetsTakesWrongFalsely : Prop := octetsTakesRow.holds Try.pinned (OpenSpec.ofChange octetsTakesWrong)

/-- 'signalboxlaw01.OctetsSigns': WHATEVER THE INPUT: true; the input reads as it did. -/
def octetsSignsSpec : ChangeSpec := { name := "octetsSigns", fn := fun _ => fun
  | [d1, d2] => { results := [.lit (.bool true)], args := [d1, d2] }
  | _ => none }
def octetsSignsRow : OpenClaim := { program := "ytkjgaibkajafaaa", sum := "1e0fe1d1656163cc47b457d55b63f630f6b89bb0528ad3e254eac77bea447df3", func := "signalbox/signalboxlaw01.OctetsSigns", spec := "octetsSigns", apart := false }
def OctetsSignsSaid : Prop := octetsSignsRow.holds Try.pinned (OpenSpec.ofChange octetsSignsSpec)

/-- ITS FALSE NEIGHBOUR: 'it returns false'. Refute it at one input. -/
def octetsSignsWrong : ChangeSpec := { name := "octetsSigns", fn := fun _ => fun
  | [d1, d2] => { results := [.lit (.bool false)], args := [d1, d2] }
  | _ => none }
def OctetsSignsWrongFalsely : Prop := octetsSignsRow.holds Try.pinned (OpenSpec.ofChange octetsSignsWrong)

/-- 'signalboxlaw01.OctetsRows': WHATEVER THE INPUT: true; the input reads as it did. -/
def octetsRowsSpec : ChangeSpec := { name := "octetsRows", fn := fun _ => fun
  | [d1, d2] => { results := [.lit (.bool true)], args := [d1, d2] }
  | _ => none }
def octetsRowsRow : OpenClaim := { program := "ytkjgaibkajafaaa", sum := "1e0fe1d1656163cc47b457d55b63f630f6b89bb0528ad3e254eac77bea447df3", func := "signalbox/signalboxlaw01.OctetsRows", spec := "octetsRows", apart := false }
def OctetsRowsSaid : Prop := octetsRowsRow.holds Try.pinned (OpenSpec.ofChange octetsRowsSpec)

/-- ITS FALSE NEIGHBOUR: 'it returns false'. Refute it at one input. -/
def octetsRowsWrong : ChangeSpec := { name := "octetsRows", fn := fun _ => fun
  | [d1, d2] => { results := [.lit (.bool false)], args := [d1, d2] }
  | _ => none }
def OctetsRowsWrongFalsely : Prop := octetsRowsRow.holds Try.pinned (OpenSpec.ofChange octetsRowsWrong)

/- THE SECOND FORM. 'bulk': how many values and letters a reading holds, each counted each time it is reached (what is shared counts as often as it is met; a slice's spare places count too). A statement '..UptoSaid' is the law's where the arguments, and the package variables that the reading takes, are together of bulk at most 1048576: NARROWER than '..Said'. Prove '..Said' where nothing that the law and all that it calls make is longer than what came in: it says more and counts as full. Else prove '..UptoSaid'. A law counts once. -/
mutual
def uptoBulk {H : Type} : DataW H → Nat
  | .lit (.string bytes) => bytes.length + 1
  | .lit _ => 1
  | .nil => 1
  | .ptr d => uptoBulk d + 1
  | .slice elems spare => uptoBulkAll elems + uptoBulkAll spare + 1
  | .agg parts => uptoBulkAll parts + 1
  | .iface _ d => uptoBulk d + 1
  | .map entries => uptoBulkEntries entries + 1
  | .held _ => 1
def uptoBulkAll {H : Type} : List (DataW H) → Nat
  | [] => 0
  | d :: r => uptoBulk d + uptoBulkAll r
def uptoBulkEntries {H : Type} : List (Lit × DataW H) → Nat
  | [] => 0
  | x :: r => uptoBulkEntry x + uptoBulkEntries r
def uptoBulkEntry {H : Type} : Lit × DataW H → Nat
  | (.string bytes, d) => bytes.length + uptoBulk d + 1
  | (_, d) => uptoBulk d + 1
 end
def uptoSmall : (H : Type) → List (DataW H) → Bool := fun _ ds => decide (uptoBulkAll ds ≤ 1048576)
def OpenSpec.upto (s : _root_.Go.ChangeSpec) : _root_.Go.OpenSpec := { _root_.Go.OpenSpec.ofChange s with cond := some uptoSmall }

/-- 'signalboxlaw01.OctetsPuts', WHERE WHAT IT READS IS OF BULK AT MOST 1048576: true; the input reads as it did. -/
def octetsPutsUptoRow : OpenClaim := { program := "ytkjgaibkajafaaa", sum := "1e0fe1d1656163cc47b457d55b63f630f6b89bb0528ad3e254eac77bea447df3", func := "signalbox/signalboxlaw01.OctetsPuts", spec := "octetsPuts", apart := false, narrowed := true }
def OctetsPutsUptoSaid : Prop := octetsPutsUptoRow.holds Try.pinned (OpenSpec.upto octetsPutsSpec)

/-- 'signalboxlaw01.OctetsGets', WHERE WHAT IT READS IS OF BULK AT MOST 1048576: true; the input reads as it did. -/
def octetsGetsUptoRow : OpenClaim := { program := "ytkjgaibkajafaaa", sum := "1e0fe1d1656163cc47b457d55b63f630f6b89bb0528ad3e254eac77bea447df3", func := "signalbox/signalboxlaw01.OctetsGets", spec := "octetsGets", apart := false, narrowed := true }
def OctetsGetsUptoSaid : Prop := octetsGetsUptoRow.holds Try.pinned (OpenSpec.upto octetsGetsSpec)

/-- 'signalboxlaw01.OctetsTakes', WHERE WHAT IT READS IS OF BULK AT MOST 1048576: true; the input reads as it did. -/
def octetsTakesUptoRow : OpenClaim := { program := "ytkjgaibkajafaaa", sum := "1e0fe1d1656163cc47b457d55b63f630f6b89bb0528ad3e254eac77bea447df3", func := "signalbox/signalboxlaw01.OctetsTakes", spec := "octetsTakes", apart := false, narrowed := true }
def OctetsTakesUptoSaid : Prop := octetsTakesUptoRow.holds Try.pinned (OpenSpec.upto octetsTakesSpec)

/-- 'signalboxlaw01.OctetsSigns', WHERE WHAT IT READS IS OF BULK AT MOST 1048576: true; the input reads as it did. -/
def octetsSignsUptoRow : OpenClaim := { program := "ytkjgaibkajafaaa", sum := "1e0fe1d1656163cc47b457d55b63f630f6b89bb0528ad3e254eac77bea447df3", func := "signalbox/signalboxlaw01.OctetsSigns", spec := "octetsSigns", apart := false, narrowed := true }
def OctetsSignsUptoSaid : Prop := octetsSignsUptoRow.holds Try.pinned (OpenSpec.upto octetsSignsSpec)

/-- 'signalboxlaw01.OctetsRows', WHERE WHAT IT READS IS OF BULK AT MOST 1048576: true; the input reads as it did. -/
def octetsRowsUptoRow : OpenClaim := { program := "ytkjgaibkajafaaa", sum := "1e0fe1d1656163cc47b457d55b63f630f6b89bb0528ad3e254eac77bea447df3", func := "signalbox/signalboxlaw01.OctetsRows", spec := "octetsRows", apart := false, narrowed := true }
def OctetsRowsUptoSaid : Prop := octetsRowsUptoRow.holds Try.pinned (OpenSpec.upto octetsRowsSpec)

end Rows
end Go.Proofs.Ytkjgaibkajafaaa
