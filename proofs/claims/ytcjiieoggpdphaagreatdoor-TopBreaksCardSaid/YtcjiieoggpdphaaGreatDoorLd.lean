/- The program's rows fit its types: a row of types after another. No condition. -/
import Derived.Test.YtcjiieoggpdphaaGreatDoorRows
import Derived.ProofKit
namespace Go.Proofs.YtcjiieoggpdphaaGreatDoor
open Go
theorem tysize : Tryz.prog.types.size = 761 := by kernel_rfl
theorem ldG : Tryz.prog.globals.all (fun g => decide (g.type < Tryz.prog.types.size)) = true := by kernel_rfl
theorem ldF : Tryz.prog.funcs.all (fun f => f.params.all fun t => decide (t < Tryz.prog.types.size)) = true := by kernel_rfl
theorem more {p : Nat → Bool} {a b c : Nat} (h1 : (List.range' 0 a).all p = true) (h2 : (List.range' a b).all p = true) (hc : c = a + b) : (List.range' 0 c).all p = true := by
  subst hc
  rw [List.all_eq_true] at *
  intro x hx
  have hx := List.mem_range'_1.1 hx
  by_cases h : x < a
  · exact h1 x (List.mem_range'_1.2 ⟨by omega, by omega⟩)
  · exact h2 x (List.mem_range'_1.2 ⟨by omega, by omega⟩)
theorem ld0 : (List.range' 0 128).all (rowFine Tryz.prog) = true := by kernel_rfl
theorem ld1 : (List.range' 128 128).all (rowFine Tryz.prog) = true := by kernel_rfl
theorem ld2 : (List.range' 256 128).all (rowFine Tryz.prog) = true := by kernel_rfl
theorem ld3 : (List.range' 384 128).all (rowFine Tryz.prog) = true := by kernel_rfl
theorem ld4 : (List.range' 512 128).all (rowFine Tryz.prog) = true := by kernel_rfl
theorem ld5 : (List.range' 640 121).all (rowFine Tryz.prog) = true := by kernel_rfl
theorem laidOut0 : laidOutB Tryz.prog = true := by
  have h : (List.range' 0 761).all (rowFine Tryz.prog) = true := (more (more (more (more (more ld0 ld1 (c := 256) rfl) ld2 (c := 384) rfl) ld3 (c := 512) rfl) ld4 (c := 640) rfl) ld5 (c := 761) rfl)
  unfold laidOutB
  rw [ldG, ldF, tysize, List.range_eq_range', h, Bool.and_self, Bool.and_self]
end Go.Proofs.YtcjiieoggpdphaaGreatDoor
