/-
  No cell of these rows narrows 'for every input' (looked for: loops, veiled, ifaces, maps, wideKeys, modest, calm, conditions, laid).
  DERIVED. THE GIVEN ROWS OF THIS SEAT. 11 by the template 'for every input the law returns true; each argument reads behind the call as it read before'; 0 by the template 'total and deterministic' (their statements: YtapekipfkghdhaaTotals.lean).
  GIVEN WITH THE SEED: the statements are not yours to turn. If you find one false, say at which input.
  Laid BY PROGRAM, IN A SANDBOX (cutbox-rows.mjs): the forced cells as the released guide's own fill.sh prints them over the translation 72bd8a0821b4127d… (all of the seat's roots in one cut). By AI agents, Wed Nov 11 2026. No macro, syntax, notation, axiom, sorry.
-/
import Derived.Test.YtapekipfkghdhaaChecked
import GoSem.Claim
import GoSem.ClaimJoined
import GoSem.ClaimMapViews
import Derived.JoinedTies
import Derived.KernelRfl
namespace Go.Proofs.Ytapekipfkghdhaa
/- THE CELL 'sum', in the pinned program and in every row, IS THE sha256 OF THE DUMP (.gsa) THAT YtapekipfkghdhaaProg.lean LOADS. Nothing in Lean hashes anything: it is a label: what it is worth is what the hold of that sum in a sandbox is worth. -/
noncomputable def Try.pinned : Pinned := { name := "ytapekipfkghdhaa", sum := "72bd8a0821b4127d3bc997f4a4cbda9e99b793a9bf491870fc1191a08eb8cf44", checked := Try.checked }
namespace Rows
def none {H : Type} : Left H := { results := [], args := [] }

/-- 'signalboxlaw11.MurmurHashes': WHATEVER THE INPUT: true; the input reads as it did. -/
def murmurHashesSpec : ChangeSpec := { name := "murmurHashes", fn := fun _ => fun
  | [d] => { results := [.lit (.bool true)], args := [d] }
  | _ => none }
def murmurHashesRow : OpenClaim := { program := "ytapekipfkghdhaa", sum := "72bd8a0821b4127d3bc997f4a4cbda9e99b793a9bf491870fc1191a08eb8cf44", func := "signalbox/signalboxlaw11.MurmurHashes", spec := "murmurHashes", apart := false }
def MurmurHashesSaid : Prop := murmurHashesRow.holds Try.pinned (OpenSpec.ofChange murmurHashesSpec)

/-- ITS FALSE NEIGHBOUR: 'it returns false'. Refute it at one input. -/
def murmurHashesWrong : ChangeSpec := { name := "murmurHashes", fn := fun _ => fun
  | [d] => { results := [.lit (.bool false)], args := [d] }
  | _ => none }
def MurmurHashesWrongFalsely : Prop := murmurHashesRow.holds Try.pinned (OpenSpec.ofChange murmurHashesWrong)

/-- 'signalboxlaw11.MurmurShort': WHATEVER THE INPUT: true; the input reads as it did. -/
def murmurShortSpec : ChangeSpec := { name := "murmurShort", fn := fun _ => fun
  | [d1, d2, d3] => { results := [.lit (.bool true)], args := [d1, d2, d3] }
  | _ => none }
def murmurShortRow : OpenClaim := { program := "ytapekipfkghdhaa", sum := "72bd8a0821b4127d3bc997f4a4cbda9e99b793a9bf491870fc1191a08eb8cf44", func := "signalbox/signalboxlaw11.MurmurShort", spec := "murmurShort", apart := false }
def MurmurShortSaid : Prop := murmurShortRow.holds Try.pinned (OpenSpec.ofChange murmurShortSpec)

/-- ITS FALSE NEIGHBOUR: 'it returns false'. Refute it at one input. -/
def murmurShortWrong : ChangeSpec := { name := "murmurShort", fn := fun _ => fun
  | [d1, d2, d3] => { results := [.lit (.bool false)], args := [d1, d2, d3] }
  | _ => none }
def MurmurShortWrongFalsely : Prop := murmurShortRow.holds Try.pinned (OpenSpec.ofChange murmurShortWrong)

/-- 'signalboxlaw11.MurmurLeast': WHATEVER THE INPUT: true; the input reads as it did. -/
def murmurLeastSpec : ChangeSpec := { name := "murmurLeast", fn := fun _ => fun
  | [d] => { results := [.lit (.bool true)], args := [d] }
  | _ => none }
def murmurLeastRow : OpenClaim := { program := "ytapekipfkghdhaa", sum := "72bd8a0821b4127d3bc997f4a4cbda9e99b793a9bf491870fc1191a08eb8cf44", func := "signalbox/signalboxlaw11.MurmurLeast", spec := "murmurLeast", apart := false }
def MurmurLeastSaid : Prop := murmurLeastRow.holds Try.pinned (OpenSpec.ofChange murmurLeastSpec)

/-- ITS FALSE NEIGHBOUR: 'it returns false'. Refute it at one input. -/
def murmurLeastWrong : ChangeSpec := { name := "murmurLeast", fn := fun _ => fun
  | [d] => { results := [.lit (.bool false)], args := [d] }
  | _ => none }
def MurmurLeastWrongFalsely : Prop := murmurLeastRow.holds Try.pinned (OpenSpec.ofChange murmurLeastWrong)

/-- 'signalboxlaw11.MurmurTail': WHATEVER THE INPUT: true; the input reads as it did. -/
def murmurTailSpec : ChangeSpec := { name := "murmurTail", fn := fun _ => fun
  | [d1, d2, d3] => { results := [.lit (.bool true)], args := [d1, d2, d3] }
  | _ => none }
def murmurTailRow : OpenClaim := { program := "ytapekipfkghdhaa", sum := "72bd8a0821b4127d3bc997f4a4cbda9e99b793a9bf491870fc1191a08eb8cf44", func := "signalbox/signalboxlaw11.MurmurTail", spec := "murmurTail", apart := false }
def MurmurTailSaid : Prop := murmurTailRow.holds Try.pinned (OpenSpec.ofChange murmurTailSpec)

/-- ITS FALSE NEIGHBOUR: 'it returns false'. Refute it at one input. -/
def murmurTailWrong : ChangeSpec := { name := "murmurTail", fn := fun _ => fun
  | [d1, d2, d3] => { results := [.lit (.bool false)], args := [d1, d2, d3] }
  | _ => none }
def MurmurTailWrongFalsely : Prop := murmurTailRow.holds Try.pinned (OpenSpec.ofChange murmurTailWrong)

/-- 'signalboxlaw11.MurmurNoughts': WHATEVER THE INPUT: true; the input reads as it did. -/
def murmurNoughtsSpec : ChangeSpec := { name := "murmurNoughts", fn := fun _ => fun
  | [d1, d2] => { results := [.lit (.bool true)], args := [d1, d2] }
  | _ => none }
def murmurNoughtsRow : OpenClaim := { program := "ytapekipfkghdhaa", sum := "72bd8a0821b4127d3bc997f4a4cbda9e99b793a9bf491870fc1191a08eb8cf44", func := "signalbox/signalboxlaw11.MurmurNoughts", spec := "murmurNoughts", apart := false }
def MurmurNoughtsSaid : Prop := murmurNoughtsRow.holds Try.pinned (OpenSpec.ofChange murmurNoughtsSpec)

/-- ITS FALSE NEIGHBOUR: 'it returns false'. Refute it at one input. -/
def murmurNoughtsWrong : ChangeSpec := { name := "murmurNoughts", fn := fun _ => fun
  | [d1, d2] => { results := [.lit (.bool false)], args := [d1, d2] }
  | _ => none }
def MurmurNoughtsWrongFalsely : Prop := murmurNoughtsRow.holds Try.pinned (OpenSpec.ofChange murmurNoughtsWrong)

/-- 'signalboxlaw12.RoutingKeys': WHATEVER THE INPUT: true; the input reads as it did. -/
def routingKeysSpec : ChangeSpec := { name := "routingKeys", fn := fun _ => fun
  | [d] => { results := [.lit (.bool true)], args := [d] }
  | _ => none }
def routingKeysRow : OpenClaim := { program := "ytapekipfkghdhaa", sum := "72bd8a0821b4127d3bc997f4a4cbda9e99b793a9bf491870fc1191a08eb8cf44", func := "signalbox/signalboxlaw12.RoutingKeys", spec := "routingKeys", unfollowed := true, recurses := true, apart := false }
def RoutingKeysSaid : Prop := routingKeysRow.holds Try.pinned (OpenSpec.ofChange routingKeysSpec)

/-- ITS FALSE NEIGHBOUR: 'it returns false'. Refute it at one input. -/
def routingKeysWrong : ChangeSpec := { name := "routingKeys", fn := fun _ => fun
  | [d] => { results := [.lit (.bool false)], args := [d] }
  | _ => none }
def RoutingKeysWrongFalsely : Prop := routingKeysRow.holds Try.pinned (OpenSpec.ofChange routingKeysWrong)

/-- 'signalboxlaw12.RoutingParts': WHATEVER THE INPUT: true; the input reads as it did. -/
def routingPartsSpec : ChangeSpec := { name := "routingParts", fn := fun _ => fun
  | [d] => { results := [.lit (.bool true)], args := [d] }
  | _ => none }
def routingPartsRow : OpenClaim := { program := "ytapekipfkghdhaa", sum := "72bd8a0821b4127d3bc997f4a4cbda9e99b793a9bf491870fc1191a08eb8cf44", func := "signalbox/signalboxlaw12.RoutingParts", spec := "routingParts", unfollowed := true, recurses := true, apart := false }
def RoutingPartsSaid : Prop := routingPartsRow.holds Try.pinned (OpenSpec.ofChange routingPartsSpec)

/-- ITS FALSE NEIGHBOUR: 'it returns false'. Refute it at one input. -/
def routingPartsWrong : ChangeSpec := { name := "routingParts", fn := fun _ => fun
  | [d] => { results := [.lit (.bool false)], args := [d] }
  | _ => none }
def RoutingPartsWrongFalsely : Prop := routingPartsRow.holds Try.pinned (OpenSpec.ofChange routingPartsWrong)

/-- 'signalboxlaw12.RoutingBack': WHATEVER THE INPUT: true; the input reads as it did. -/
def routingBackSpec : ChangeSpec := { name := "routingBack", fn := fun _ => fun
  | [d1, d2] => { results := [.lit (.bool true)], args := [d1, d2] }
  | _ => none }
def routingBackRow : OpenClaim := { program := "ytapekipfkghdhaa", sum := "72bd8a0821b4127d3bc997f4a4cbda9e99b793a9bf491870fc1191a08eb8cf44", func := "signalbox/signalboxlaw12.RoutingBack", spec := "routingBack", unfollowed := true, recurses := true, apart := false }
def RoutingBackSaid : Prop := routingBackRow.holds Try.pinned (OpenSpec.ofChange routingBackSpec)

/-- ITS FALSE NEIGHBOUR: 'it returns false'. Refute it at one input. -/
def routingBackWrong : ChangeSpec := { name := "routingBack", fn := fun _ => fun
  | [d1, d2] => { results := [.lit (.bool false)], args := [d1, d2] }
  | _ => none }
def RoutingBackWrongFalsely : Prop := routingBackRow.holds Try.pinned (OpenSpec.ofChange routingBackWrong)

/-- 'signalboxlaw12.RoutingPicks': WHATEVER THE INPUT: true; the input reads as it did. -/
def routingPicksSpec : ChangeSpec := { name := "routingPicks", fn := fun _ => fun
  | [d1, d2] => { results := [.lit (.bool true)], args := [d1, d2] }
  | _ => none }
def routingPicksRow : OpenClaim := { program := "ytapekipfkghdhaa", sum := "72bd8a0821b4127d3bc997f4a4cbda9e99b793a9bf491870fc1191a08eb8cf44", func := "signalbox/signalboxlaw12.RoutingPicks", spec := "routingPicks", unfollowed := true, recurses := true, apart := false }
def RoutingPicksSaid : Prop := routingPicksRow.holds Try.pinned (OpenSpec.ofChange routingPicksSpec)

/-- ITS FALSE NEIGHBOUR: 'it returns false'. Refute it at one input. -/
def routingPicksWrong : ChangeSpec := { name := "routingPicks", fn := fun _ => fun
  | [d1, d2] => { results := [.lit (.bool false)], args := [d1, d2] }
  | _ => none }
def RoutingPicksWrongFalsely : Prop := routingPicksRow.holds Try.pinned (OpenSpec.ofChange routingPicksWrong)

/-- 'signalboxlaw12.RoutingOne': WHATEVER THE INPUT: true; the input reads as it did. -/
def routingOneSpec : ChangeSpec := { name := "routingOne", fn := fun _ => fun
  | [d] => { results := [.lit (.bool true)], args := [d] }
  | _ => none }
def routingOneRow : OpenClaim := { program := "ytapekipfkghdhaa", sum := "72bd8a0821b4127d3bc997f4a4cbda9e99b793a9bf491870fc1191a08eb8cf44", func := "signalbox/signalboxlaw12.RoutingOne", spec := "routingOne", unfollowed := true, recurses := true, apart := false }
def RoutingOneSaid : Prop := routingOneRow.holds Try.pinned (OpenSpec.ofChange routingOneSpec)

/-- ITS FALSE NEIGHBOUR: 'it returns false'. Refute it at one input. -/
def routingOneWrong : ChangeSpec := { name := "routingOne", fn := fun _ => fun
  | [d] => { results := [.lit (.bool false)], args := [d] }
  | _ => none }
def RoutingOneWrongFalsely : Prop := routingOneRow.holds Try.pinned (OpenSpec.ofChange routingOneWrong)

/-- 'signalboxlaw12.RoutingValues': WHATEVER THE INPUT: true; the input reads as it did. -/
def routingValuesSpec : ChangeSpec := { name := "routingValues", fn := fun _ => fun
  | [d1, d2] => { results := [.lit (.bool true)], args := [d1, d2] }
  | _ => none }
def routingValuesRow : OpenClaim := { program := "ytapekipfkghdhaa", sum := "72bd8a0821b4127d3bc997f4a4cbda9e99b793a9bf491870fc1191a08eb8cf44", func := "signalbox/signalboxlaw12.RoutingValues", spec := "routingValues", unfollowed := true, recurses := true, apart := false }
def RoutingValuesSaid : Prop := routingValuesRow.holds Try.pinned (OpenSpec.ofChange routingValuesSpec)

/-- ITS FALSE NEIGHBOUR: 'it returns false'. Refute it at one input. -/
def routingValuesWrong : ChangeSpec := { name := "routingValues", fn := fun _ => fun
  | [d1, d2] => { results := [.lit (.bool false)], args := [d1, d2] }
  | _ => none }
def RoutingValuesWrongFalsely : Prop := routingValuesRow.holds Try.pinned (OpenSpec.ofChange routingValuesWrong)

/- THE SECOND FORM. 'bulk': how many values and letters a reading holds, each counted each time it is reached (what is shared counts as often as it is met; a slice's spare places count too). A statement '..UptoSaid' is the law's where the arguments, and the package variables that the reading takes, are together of bulk at most 1048576: NARROWER than '..Said'. Prove '..Said' where nothing that the law and all that it calls make is longer than what came in: it says more and counts as full. Else prove '..UptoSaid'. A law counts once. -/
mutual
def uptoBulk {H : Type} : DataW H → Nat
  | .lit (.string bytes) => bytes.length + 1
  | .lit _ => 1
  | .nil => 1
  | .ptr d => uptoBulk d + 1
  | .slice elems spare => uptoBulkAll elems + uptoBulkAll spare + 1
  | .agg parts => uptoBulkAll parts + 1
  | .iface _ d => uptoBulk d + 1
  | .map entries => uptoBulkEntries entries + 1
  | .held _ => 1
def uptoBulkAll {H : Type} : List (DataW H) → Nat
  | [] => 0
  | d :: r => uptoBulk d + uptoBulkAll r
def uptoBulkEntries {H : Type} : List (Lit × DataW H) → Nat
  | [] => 0
  | x :: r => uptoBulkEntry x + uptoBulkEntries r
def uptoBulkEntry {H : Type} : Lit × DataW H → Nat
  | (.string bytes, d) => bytes.length + uptoBulk d + 1
  | (_, d) => uptoBulk d + 1
 end
def uptoSmall : (H : Type) → List (DataW H) → Bool := fun _ ds => decide (uptoBulkAll ds ≤ 1048576)
def OpenSpec.upto (s : _root_.Go.ChangeSpec) : _root_.Go.OpenSpec := { _root_.Go.OpenSpec.ofChange s with cond := some uptoSmall }

/-- 'signalboxlaw11.MurmurHashes', WHERE WHAT IT READS IS OF BULK AT MOST 1048576: true; the input reads as it did. -/
def murmurHashesUptoRow : OpenClaim := { program := "ytapekipfkghdhaa", sum := "72bd8a0821b4127d3bc997f4a4cbda9e99b793a9bf491870fc1191a08eb8cf44", func := "signalbox/signalboxlaw11.MurmurHashes", spec := "murmurHashes", apart := false, narrowed := true }
def MurmurHashesUptoSaid : Prop := murmurHashesUptoRow.holds Try.pinned (OpenSpec.upto murmurHashesSpec)

/-- 'signalboxlaw11.MurmurShort', WHERE WHAT IT READS IS OF BULK AT MOST 1048576: true; the input reads as it did. -/
def murmurShortUptoRow : OpenClaim := { program := "ytapekipfkghdhaa", sum := "72bd8a0821b4127d3bc997f4a4cbda9e99b793a9bf491870fc1191a08eb8cf44", func := "signalbox/signalboxlaw11.MurmurShort", spec := "murmurShort", apart := false, narrowed := true }
def MurmurShortUptoSaid : Prop := murmurShortUptoRow.holds Try.pinned (OpenSpec.upto murmurShortSpec)

/-- 'signalboxlaw11.MurmurLeast', WHERE WHAT IT READS IS OF BULK AT MOST 1048576: true; the input reads as it did. -/
def murmurLeastUptoRow : OpenClaim := { program := "ytapekipfkghdhaa", sum := "72bd8a0821b4127d3bc997f4a4cbda9e99b793a9bf491870fc1191a08eb8cf44", func := "signalbox/signalboxlaw11.MurmurLeast", spec := "murmurLeast", apart := false, narrowed := true }
def MurmurLeastUptoSaid : Prop := murmurLeastUptoRow.holds Try.pinned (OpenSpec.upto murmurLeastSpec)

/-- 'signalboxlaw11.MurmurTail', WHERE WHAT IT READS IS OF BULK AT MOST 1048576: true; the input reads as it did. -/
def murmurTailUptoRow : OpenClaim := { program := "ytapekipfkghdhaa", sum := "72bd8a0821b4127d3bc997f4a4cbda9e99b793a9bf491870fc1191a08eb8cf44", func := "signalbox/signalboxlaw11.MurmurTail", spec := "murmurTail", apart := false, narrowed := true }
def MurmurTailUptoSaid : Prop := murmurTailUptoRow.holds Try.pinned (OpenSpec.upto murmurTailSpec)

/-- 'signalboxlaw11.MurmurNoughts', WHERE WHAT IT READS IS OF BULK AT MOST 1048576: true; the input reads as it did. -/
def murmurNoughtsUptoRow : OpenClaim := { program := "ytapekipfkghdhaa", sum := "72bd8a0821b4127d3bc997f4a4cbda9e99b793a9bf491870fc1191a08eb8cf44", func := "signalbox/signalboxlaw11.MurmurNoughts", spec := "murmurNoughts", apart := false, narrowed := true }
def MurmurNoughtsUptoSaid : Prop := murmurNoughtsUptoRow.holds Try.pinned (OpenSpec.upto murmurNoughtsSpec)

/-- 'signalboxlaw12.RoutingKeys', WHERE WHAT IT READS IS OF BULK AT MOST 1048576: true; the input reads as it did. -/
def routingKeysUptoRow : OpenClaim := { program := "ytapekipfkghdhaa", sum := "72bd8a0821b4127d3bc997f4a4cbda9e99b793a9bf491870fc1191a08eb8cf44", func := "signalbox/signalboxlaw12.RoutingKeys", spec := "routingKeys", unfollowed := true, recurses := true, apart := false, narrowed := true }
def RoutingKeysUptoSaid : Prop := routingKeysUptoRow.holds Try.pinned (OpenSpec.upto routingKeysSpec)

/-- 'signalboxlaw12.RoutingParts', WHERE WHAT IT READS IS OF BULK AT MOST 1048576: true; the input reads as it did. -/
def routingPartsUptoRow : OpenClaim := { program := "ytapekipfkghdhaa", sum := "72bd8a0821b4127d3bc997f4a4cbda9e99b793a9bf491870fc1191a08eb8cf44", func := "signalbox/signalboxlaw12.RoutingParts", spec := "routingParts", unfollowed := true, recurses := true, apart := false, narrowed := true }
def RoutingPartsUptoSaid : Prop := routingPartsUptoRow.holds Try.pinned (OpenSpec.upto routingPartsSpec)

/-- 'signalboxlaw12.RoutingBack', WHERE WHAT IT READS IS OF BULK AT MOST 1048576: true; the input reads as it did. -/
def routingBackUptoRow : OpenClaim := { program := "ytapekipfkghdhaa", sum := "72bd8a0821b4127d3bc997f4a4cbda9e99b793a9bf491870fc1191a08eb8cf44", func := "signalbox/signalboxlaw12.RoutingBack", spec := "routingBack", unfollowed := true, recurses := true, apart := false, narrowed := true }
def RoutingBackUptoSaid : Prop := routingBackUptoRow.holds Try.pinned (OpenSpec.upto routingBackSpec)

/-- 'signalboxlaw12.RoutingPicks', WHERE WHAT IT READS IS OF BULK AT MOST 1048576: true; the input reads as it did. -/
def routingPicksUptoRow : OpenClaim := { program := "ytapekipfkghdhaa", sum := "72bd8a0821b4127d3bc997f4a4cbda9e99b793a9bf491870fc1191a08eb8cf44", func := "signalbox/signalboxlaw12.RoutingPicks", spec := "routingPicks", unfollowed := true, recurses := true, apart := false, narrowed := true }
def RoutingPicksUptoSaid : Prop := routingPicksUptoRow.holds Try.pinned (OpenSpec.upto routingPicksSpec)

/-- 'signalboxlaw12.RoutingOne', WHERE WHAT IT READS IS OF BULK AT MOST 1048576: true; the input reads as it did. -/
def routingOneUptoRow : OpenClaim := { program := "ytapekipfkghdhaa", sum := "72bd8a0821b4127d3bc997f4a4cbda9e99b793a9bf491870fc1191a08eb8cf44", func := "signalbox/signalboxlaw12.RoutingOne", spec := "routingOne", unfollowed := true, recurses := true, apart := false, narrowed := true }
def RoutingOneUptoSaid : Prop := routingOneUptoRow.holds Try.pinned (OpenSpec.upto routingOneSpec)

/-- 'signalboxlaw12.RoutingValues', WHERE WHAT IT READS IS OF BULK AT MOST 1048576: true; the input reads as it did. -/
def routingValuesUptoRow : OpenClaim := { program := "ytapekipfkghdhaa", sum := "72bd8a0821b4127d3bc997f4a4cbda9e99b793a9bf491870fc1191a08eb8cf44", func := "signalbox/signalboxlaw12.RoutingValues", spec := "routingValues", unfollowed := true, recurses := true, apart := false, narrowed := true }
def RoutingValuesUptoSaid : Prop := routingValuesUptoRow.holds Try.pinned (OpenSpec.upto routingValuesSpec)

end Rows
end Go.Proofs.Ytapekipfkghdhaa
