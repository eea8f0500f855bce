/- No body of the program starts a goroutine. No condition. -/
import Derived.Test.YtcjiieoggpdphaaGreatDoorRows
import Derived.ProofKit
import GoSem.ClaimGoes
namespace Go.Proofs.YtcjiieoggpdphaaGreatDoor
open Go
theorem nogo : Tryz.prog.funcs.any Func.goes = false := by kernel_rfl
theorem goesBy_no {c : OpenClaim} {P : Program} (hs : c.start = .entering) (h : P.funcs.any Func.goes = false) : false = c.goesBy P := by
  have hg : ∀ f, P.goes f = false := fun f => by
    unfold Program.goes
    rw [h, Bool.and_false, Bool.or_false, List.any_eq_false]
    intro g _
    cases hf : P.funcs[g]? with
    | none => simp
    | some fn =>
      obtain ⟨hi, rfl⟩ := Array.getElem?_eq_some_iff.1 hf
      have := Array.any_eq_false.1 h g hi
      simpa using this
  unfold OpenClaim.goesBy Program.goesAt Program.goesFrom
  rw [hs]
  cases P.funcNamed c.func <;> simp [hg]
end Go.Proofs.YtcjiieoggpdphaaGreatDoor
