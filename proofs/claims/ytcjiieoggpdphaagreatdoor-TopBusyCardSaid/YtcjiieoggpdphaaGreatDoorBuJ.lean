/- TopBusy: the closed facts of its row, each by itself. No condition. -/
import Derived.Test.YtcjiieoggpdphaaGreatDoorRows
import Derived.ProofKit
import Derived.Test.YtcjiieoggpdphaaGreatDoorLd
import Derived.Test.YtcjiieoggpdphaaGreatDoorPg
namespace Go.Proofs.YtcjiieoggpdphaaGreatDoor.topBusy
open Go
theorem and2 {a b : Bool} (ha : a = true) (hb : b = true) : (a && b) = true := by rw [ha, hb]; rfl
theorem j0 : (Rows.topBusyRow.wf (OpenSpec.ofChange Rows.topBusySpec) : Bool) = true := by kernel_rfl
theorem j1 : (laidOutB Tryz.prog : Bool) = true := laidOut0
theorem j2 : (mapsRowed Tryz.prog : Bool) = true := prog2
theorem j3 : (Tryz.f3.params.all (Tryz.prog.readableRec ·) : Bool) = true := by kernel_rfl
theorem j4 : (namedTie Tryz.prog Rows.topBusyRow.named Rows.topBusySpec.vars : Bool) = true := by kernel_rfl
theorem j5 : ((Rows.topBusyRow.stops == []) : Bool) = true := by kernel_rfl
theorem j6 : ((Tryz.prog.stops == []) : Bool) = true := prog6
theorem j7 : ((Rows.topBusyRow.knobs == []) : Bool) = true := by kernel_rfl
theorem j8 : ((Tryz.prog.stopKnobs == []) : Bool) = true := prog8
theorem j9 : ((Rows.topBusyRow.inPlace == Tryz.prog.inPlace 3) : Bool) = true := by kernel_rfl
theorem j10 : ((Rows.topBusyRow.unfollowed == Tryz.prog.unfollowed 3) : Bool) = true := by kernel_rfl
theorem j11 : ((Rows.topBusyRow.recurses == Tryz.prog.recurses 3) : Bool) = true := by kernel_rfl
theorem j12 : ((Rows.topBusyRow.named == Tryz.prog.varsNamed 3) : Bool) = true := by kernel_rfl
theorem j13 : ((Rows.topBusyRow.maps == (Tryz.f3.params.toList ++ Rows.topBusySpec.plain.varTypes Tryz.prog).any (Tryz.prog.mapsRec ·)) : Bool) = true := by kernel_rfl
theorem j14 : ((Rows.topBusyRow.ifaces == (Tryz.f3.params.toList ++ Rows.topBusySpec.plain.varTypes Tryz.prog).any (Tryz.prog.ifacesRec ·)) : Bool) = true := by kernel_rfl
theorem j15 : ((Rows.topBusyRow.mapsOut == Tryz.prog.mapsAmong Tryz.f3.resultTypes.toList) : Bool) = true := by kernel_rfl
theorem j16 : ((Rows.topBusyRow.loops == (Tryz.f3.params.toList ++ Rows.topBusySpec.plain.varTypes Tryz.prog).any (Tryz.prog.loopsFrom ·)) : Bool) = true := by kernel_rfl
theorem j17 : ((Rows.topBusyRow.wideKeys == (Tryz.f3.params.toList ++ Rows.topBusySpec.plain.varTypes Tryz.prog ++ Tryz.f3.resultTypes.toList).any (Tryz.prog.wideKeysFrom ·)) : Bool) = true := by kernel_rfl
theorem j18 : (Rows.topBusySpec.vars.all (Tryz.prog.varReadable ·) : Bool) = true := by kernel_rfl
theorem j19 : (Tryz.f3.resultTypes.all (fun t => Tryz.prog.readableRec t && decide (t < Tryz.prog.types.size)) : Bool) = true := by kernel_rfl
theorem j20 : ((Rows.topBusyRow.ifacesOut == Tryz.f3.resultTypes.toList.any (Tryz.prog.ifacesRec ·)) : Bool) = true := by kernel_rfl
theorem j21 : ((Rows.topBusyRow.loopsOut == Tryz.f3.resultTypes.toList.any (Tryz.prog.loopsFrom ·)) : Bool) = true := by kernel_rfl
theorem j22 : ((Rows.topBusyRow.plainKeys == Tryz.prog.plainKeys) : Bool) = true := by kernel_rfl
theorem j23 : (Rows.topBusyRow.shortTexts.isNone : Bool) = true := by kernel_rfl
theorem j24 : (Tryz.prog.stopsHeard : Bool) = true := prog24
theorem j25 : (Tryz.prog.mayEnter : Bool) = true := prog25
theorem j26 : ((Rows.topBusyRow.lifted == Tryz.prog.liftsFinal) : Bool) = true := by kernel_rfl
theorem j27 : ((Tryz.prog.make == some Rows.topBusyRow.make) : Bool) = true := by kernel_rfl
theorem j28 : ((Rows.topBusyRow.kinds == (if Rows.topBusyRow.domain.isEmpty then [] else Tryz.f3.params.toList.map fun t => match Tryz.prog.underlying t with | some (.int k) => some k | _ => none)) : Bool) = true := by kernel_rfl
theorem j29 : ((Rows.topBusyRow.pinned == Rows.topBusyRow.pinnedBy) : Bool) = true := by kernel_rfl
theorem j30 : ((Rows.topBusyRow.veiled == (Tryz.f3.params.toList ++ Rows.topBusySpec.plain.varTypes Tryz.prog ++ Tryz.f3.resultTypes.toList).any (Tryz.prog.veiledRec ·)) : Bool) = true := by kernel_rfl
theorem j31 : (Rows.topBusyRow.veiledFits Tryz.prog Tryz.f3.params.toList (Tryz.f3.params.toList ++ Rows.topBusySpec.plain.varTypes Tryz.prog ++ Tryz.f3.resultTypes.toList) : Bool) = true := by kernel_rfl
set_option maxRecDepth 100000 in
theorem joined : joinedFacts Tryz.prog 3 Tryz.f3 Rows.topBusySpec Rows.topBusyRow = true :=
  and2 (and2 (and2 (and2 (and2 (and2 (and2 (and2 (and2 (and2 (and2 (and2 (and2 (and2 (and2 (and2 (and2 (and2 (and2 (and2 (and2 (and2 (and2 (and2 (and2 (and2 (and2 (and2 (and2 (and2 (and2 j0 j1) j2) j3) j4) j5) j6) j7) j8) j9) j10) j11) j12) j13) j14) j15) j16) j17) j18) j19) j20) j21) j22) j23) j24) j25) j26) j27) j28) j29) j30) j31
end Go.Proofs.YtcjiieoggpdphaaGreatDoor.topBusy
