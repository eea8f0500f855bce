/- TopBreaks: a world and arguments at which the condition holds: its closed facts, each by itself. No condition. -/
import Derived.Test.YtcjiieoggpdphaaGreatDoorRows
import Derived.ProofKit
import Derived.SizedLaws
import Derived.LaidMore
import Derived.LaidLaws
import Derived.MakeChecks
import Derived.Lay
import Derived.Handed
namespace Go.Proofs.YtcjiieoggpdphaaGreatDoor.topBreaks
open Go

theorem own : ownKnob Tryz.prog.godebug = none := by kernel_rfl
noncomputable def wit (os : Os) : World := World.laidAll Tryz.prog os Rows.topBreaksRow.laid
def witA : Array Value := #[.int .u8 0, .int .u8 0, .bool false, .bool false]
theorem w0 : Tryz.prog.inits.idxOf? 4 = none := by kernel_rfl
theorem w1 (os : Os) : ((wit os).forCall (fun _ _ => 0) ⟨#[], witA, []⟩).variablesZipB Tryz.prog = true := by kernel_rfl
theorem w2 (os : Os) : (((wit os).forCall (fun _ _ => 0) ⟨#[], witA, []⟩).heap.toList.drop Tryz.prog.globals.size).take ((begin Tryz.prog (fun _ _ => 0) default).world.heap.size - Tryz.prog.globals.size) = (begin Tryz.prog (fun _ _ => 0) default).world.heap.toList.drop Tryz.prog.globals.size := by kernel_rfl
theorem w3 (os : Os) : Input.okWideB Tryz.prog ((wit os).forCall (fun _ _ => 0) ⟨#[], witA, []⟩) 4 ⟨#[], witA, []⟩ = true := by kernel_rfl
theorem w4 (os : Os) (H : Type) (enc : TypeId × Value → H) : Rows.topBreaksSpec.preB enc Tryz.prog Tryz.f4 [] false ((wit os).forCall (fun _ _ => 0) ⟨#[], witA, []⟩).memory witA 8 = true := by kernel_rfl
theorem w5 (os : Os) (H : Type) (enc : TypeId × Value → H) : Rows.topBreaksSpec.sizedB enc Tryz.prog Tryz.f4 false ((wit os).forCall (fun _ _ => 0) ⟨#[], witA, []⟩).memory witA 8 = true := by kernel_rfl
theorem w6 : (Rows.topBreaksRow.laid.all fun x => x.2.handleName?.isNone) = true := by kernel_rfl
theorem w7 (os : Os) : (World.holding Tryz.prog os ⟨#[], #[], []⟩).layFits Tryz.prog Rows.topBreaksRow.laid [] = true := by kernel_rfl
theorem w8 (os : Os) : (World.holding Tryz.prog os ⟨#[], #[], []⟩).layIfaces Tryz.prog Rows.topBreaksRow.laid (World.laidAll Tryz.prog os Rows.topBreaksRow.laid) = true := by kernel_rfl
end Go.Proofs.YtcjiieoggpdphaaGreatDoor.topBreaks
