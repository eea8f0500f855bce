/- TopBreaks: the closed facts of its row, each by itself. No condition. -/
import Derived.Test.YtcjiieoggpdphaaGreatDoorRows
import Derived.ProofKit
import Derived.Test.YtcjiieoggpdphaaGreatDoorLd
import Derived.Test.YtcjiieoggpdphaaGreatDoorPg
namespace Go.Proofs.YtcjiieoggpdphaaGreatDoor.topBreaks
open Go
theorem and2 {a b : Bool} (ha : a = true) (hb : b = true) : (a && b) = true := by rw [ha, hb]; rfl
theorem j0 : (Rows.topBreaksRow.wf (OpenSpec.ofChange Rows.topBreaksSpec) : Bool) = true := by kernel_rfl
theorem j1 : (laidOutB Tryz.prog : Bool) = true := laidOut0
theorem j2 : (mapsRowed Tryz.prog : Bool) = true := prog2
theorem j3 : (Tryz.f4.params.all (Tryz.prog.readableRec ·) : Bool) = true := by kernel_rfl
theorem j4 : (namedTie Tryz.prog Rows.topBreaksRow.named Rows.topBreaksSpec.vars : Bool) = true := by kernel_rfl
theorem j5 : ((Rows.topBreaksRow.stops == []) : Bool) = true := by kernel_rfl
theorem j6 : ((Tryz.prog.stops == []) : Bool) = true := prog6
theorem j7 : ((Rows.topBreaksRow.knobs == []) : Bool) = true := by kernel_rfl
theorem j8 : ((Tryz.prog.stopKnobs == []) : Bool) = true := prog8
theorem j9 : ((Rows.topBreaksRow.inPlace == Tryz.prog.inPlace 4) : Bool) = true := by kernel_rfl
theorem j10 : ((Rows.topBreaksRow.unfollowed == Tryz.prog.unfollowed 4) : Bool) = true := by kernel_rfl
theorem j11 : ((Rows.topBreaksRow.recurses == Tryz.prog.recurses 4) : Bool) = true := by kernel_rfl
theorem j12 : ((Rows.topBreaksRow.named == Tryz.prog.varsNamed 4) : Bool) = true := by kernel_rfl
theorem j13 : ((Rows.topBreaksRow.maps == (Tryz.f4.params.toList ++ Rows.topBreaksSpec.plain.varTypes Tryz.prog).any (Tryz.prog.mapsRec ·)) : Bool) = true := by kernel_rfl
theorem j14 : ((Rows.topBreaksRow.ifaces == (Tryz.f4.params.toList ++ Rows.topBreaksSpec.plain.varTypes Tryz.prog).any (Tryz.prog.ifacesRec ·)) : Bool) = true := by kernel_rfl
theorem j15 : ((Rows.topBreaksRow.mapsOut == Tryz.prog.mapsAmong Tryz.f4.resultTypes.toList) : Bool) = true := by kernel_rfl
theorem j16 : ((Rows.topBreaksRow.loops == (Tryz.f4.params.toList ++ Rows.topBreaksSpec.plain.varTypes Tryz.prog).any (Tryz.prog.loopsFrom ·)) : Bool) = true := by kernel_rfl
theorem j17 : ((Rows.topBreaksRow.wideKeys == (Tryz.f4.params.toList ++ Rows.topBreaksSpec.plain.varTypes Tryz.prog ++ Tryz.f4.resultTypes.toList).any (Tryz.prog.wideKeysFrom ·)) : Bool) = true := by kernel_rfl
theorem j18 : (Rows.topBreaksSpec.vars.all (Tryz.prog.varReadable ·) : Bool) = true := by kernel_rfl
theorem j19 : (Tryz.f4.resultTypes.all (fun t => Tryz.prog.readableRec t && decide (t < Tryz.prog.types.size)) : Bool) = true := by kernel_rfl
theorem j20 : ((Rows.topBreaksRow.ifacesOut == Tryz.f4.resultTypes.toList.any (Tryz.prog.ifacesRec ·)) : Bool) = true := by kernel_rfl
theorem j21 : ((Rows.topBreaksRow.loopsOut == Tryz.f4.resultTypes.toList.any (Tryz.prog.loopsFrom ·)) : Bool) = true := by kernel_rfl
theorem j22 : ((Rows.topBreaksRow.plainKeys == Tryz.prog.plainKeys) : Bool) = true := by kernel_rfl
theorem j23 : (Rows.topBreaksRow.shortTexts.isNone : Bool) = true := by kernel_rfl
theorem j24 : (Tryz.prog.stopsHeard : Bool) = true := prog24
theorem j25 : (Tryz.prog.mayEnter : Bool) = true := prog25
theorem j26 : ((Rows.topBreaksRow.lifted == Tryz.prog.liftsFinal) : Bool) = true := by kernel_rfl
theorem j27 : ((Tryz.prog.make == some Rows.topBreaksRow.make) : Bool) = true := by kernel_rfl
theorem j28 : ((Rows.topBreaksRow.kinds == (if Rows.topBreaksRow.domain.isEmpty then [] else Tryz.f4.params.toList.map fun t => match Tryz.prog.underlying t with | some (.int k) => some k | _ => none)) : Bool) = true := by kernel_rfl
theorem j29 : ((Rows.topBreaksRow.pinned == Rows.topBreaksRow.pinnedBy) : Bool) = true := by kernel_rfl
theorem j30 : ((Rows.topBreaksRow.veiled == (Tryz.f4.params.toList ++ Rows.topBreaksSpec.plain.varTypes Tryz.prog ++ Tryz.f4.resultTypes.toList).any (Tryz.prog.veiledRec ·)) : Bool) = true := by kernel_rfl
theorem j31 : (Rows.topBreaksRow.veiledFits Tryz.prog Tryz.f4.params.toList (Tryz.f4.params.toList ++ Rows.topBreaksSpec.plain.varTypes Tryz.prog ++ Tryz.f4.resultTypes.toList) : Bool) = true := by kernel_rfl
set_option maxRecDepth 100000 in
theorem joined : joinedFacts Tryz.prog 4 Tryz.f4 Rows.topBreaksSpec Rows.topBreaksRow = true :=
  and2 (and2 (and2 (and2 (and2 (and2 (and2 (and2 (and2 (and2 (and2 (and2 (and2 (and2 (and2 (and2 (and2 (and2 (and2 (and2 (and2 (and2 (and2 (and2 (and2 (and2 (and2 (and2 (and2 (and2 (and2 j0 j1) j2) j3) j4) j5) j6) j7) j8) j9) j10) j11) j12) j13) j14) j15) j16) j17) j18) j19) j20) j21) j22) j23) j24) j25) j26) j27) j28) j29) j30) j31
end Go.Proofs.YtcjiieoggpdphaaGreatDoor.topBreaks
