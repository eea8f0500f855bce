/- Of every input RetryDecides returns true, and each argument reads as it did. No condition. -/
import Derived.Test.YtnmiamnmjcjjiaaD
import Derived.Test.YtnmiamnmjcjjiaaF
import Derived.ProofKit
import Derived.OpenShut
import Derived.ShutString
import Derived.ChangeOld
import Derived.Below
namespace Go.Proofs.Ytnmiamnmjcjjiaa.retryDecides
open Go.ChangeShapes Go.WideShapes Go.ChangeAt Go.RowKit
open Go.ChangeMaps (open_string shut_string)
set_option linter.unusedVariables false

set_option maxRecDepth 100000 in
theorem lifted (os : Os) (started : os.Started) (H : Type) (enc : TypeId × Value → H) :
    ReturnsInHanded {} Try.checked os 3 .any (Rows.retryDecidesSpec.pre6 enc Try.prog Try.f3 Rows.retryDecidesRow.domain false) (Rows.retryDecidesSpec.post enc Try.prog Try.f3 false true false false) := by
  refine returnsInHanded_of_change (C := Try.checked) own started (by kernel_rfl) Try.func3
    (ChangeSpec.witness6 (enc := enc) (C := Try.checked) false ⟨#[], #[.agg #[.int .u32 0, .string ⟨#[]⟩, .int .u16 0, .int .i32 0, .int .i32 0, .int .i32 0, .int .u8 0, .string ⟨#[]⟩, .string ⟨#[]⟩, .string ⟨#[]⟩, .slice none 0 0, .slice none 0 0], .int .u8 0, .int .i64 0, .int .i64 0, .bool false], []⟩ 8 (by kernel_rfl) (by kernel_rfl) (by kernel_rfl) (by kernel_rfl)) ?_
  intro W base args ds gs before hval0 hW hcnd _
  have hval : ∀ (j : Nat) t v, Try.f3.params[j]? = some t → args[j]? = some v → Value.okWide Try.prog W .any base t v := hval0
  have hW' := hW
  obtain ⟨p, q, hA0, hV, rfl, hfz, hnd⟩ := hW
  have hA : DataW.TrodAll enc Try.prog W 0 (fun _ => true) true Try.f3.params.toList args.toList ds p := hA0
  rw [Try.params3] at hA hval
  obtain ⟨v0, vs0, d0, ds0, p0, q0, hargs, rfl, rfl, h0, r0⟩ := trodAll_cons hA
  obtain ⟨v1, vs1, d1, ds1, p1, q1, rfl, rfl, rfl, h1, r1⟩ := trodAll_cons r0
  obtain ⟨v2, vs2, d2, ds2, p2, q2, rfl, rfl, rfl, h2, r2⟩ := trodAll_cons r1
  obtain ⟨v3, vs3, d3, ds3, p3, q3, rfl, rfl, rfl, h3, r3⟩ := trodAll_cons r2
  obtain ⟨v4, vs4, d4, ds4, p4, q4, rfl, rfl, rfl, h4, r4⟩ := trodAll_cons r3
  obtain ⟨rfl, rfl, rfl⟩ := trodAll_nil r4
  obtain rfl : args = #[v0, v1, v2, v3, v4] := by cases args; simp_all
  obtain ⟨rfl, rfl⟩ := trodVars_none hV
  have hv0 := hval 0 27 v0 rfl rfl
  have k0 := h0
  have lt0 : ∀ x ∈ p0, x.block < W.heap.size := by obtain ⟨m, hm⟩ := k0; exact DataW.trod_lt m _ _ _ hm
  obtain ⟨a1, rfl, rfl, rfl, w1⟩ := open_int Try.underlying5 (hval 1 5 v1 rfl rfl) h1
  obtain ⟨a2, rfl, rfl, rfl, w2⟩ := open_int Try.underlying3 (hval 2 3 v2 rfl rfl) h2
  obtain ⟨a3, rfl, rfl, rfl, w3⟩ := open_int Try.underlying3 (hval 3 3 v3 rfl rfl) h3
  obtain ⟨a4, rfl, rfl, rfl⟩ := open_bool Try.underlying4 (hval 4 4 v4 rfl rfl) h4
  clear hA0 hval0
  obtain ⟨cs, fu, rfl, hlen, hf⟩ := open_struct Try.underlying27 (by kernel_rfl) (by kernel_rfl) hv0 h0
  obtain ⟨c0, c1, c2, c3, c4, c5, c6, c7, c8, c9, c10, c11, rfl⟩ := list12 hlen
  obtain ⟨_, y0, e0, g0⟩ := hf 0 _ rfl
  obtain ⟨_, y2, e2, g2⟩ := hf 2 _ rfl
  obtain ⟨_, y3, e3, g3⟩ := hf 3 _ rfl
  obtain ⟨_, y4, e4, g4⟩ := hf 4 _ rfl
  obtain ⟨_, y5, e5, g5⟩ := hf 5 _ rfl
  obtain ⟨_, y6, e6, g6⟩ := hf 6 _ rfl
  obtain ⟨_, y7, e7, g7⟩ := hf 7 _ rfl
  obtain ⟨_, y8, e8, g8⟩ := hf 8 _ rfl
  obtain ⟨_, y9, e9, g9⟩ := hf 9 _ rfl
  obtain ⟨x0, z0, _⟩ := DataW.trod_int Try.underlying22 g0
  obtain ⟨x2, z2, _⟩ := DataW.trod_int Try.underlying23 g2
  obtain ⟨x3, z3, _⟩ := DataW.trod_int Try.underlying21 g3
  obtain ⟨x4, z4, _⟩ := DataW.trod_int Try.underlying21 g4
  obtain ⟨x5, z5, _⟩ := DataW.trod_int Try.underlying21 g5
  obtain ⟨x6, z6, _⟩ := DataW.trod_int Try.underlying5 g6
  obtain ⟨x7, z7, _⟩ := DataW.trod_string Try.underlying9 g7
  obtain ⟨x8, z8, _⟩ := DataW.trod_string Try.underlying9 g8
  obtain ⟨x9, z9, _⟩ := DataW.trod_string Try.underlying9 g9
  injection z0 with z0; injection z2 with z2; injection z3 with z3; injection z4 with z4; injection z5 with z5; injection z6 with z6; injection z7 with z7; injection z8 with z8; injection z9 with z9
  subst z0 z2 z3 z4 z5 z6 z7 z8 z9
  simp at e0 e2 e3 e4 e5 e6 e7 e8 e9
  subst e0 e2 e3 e4 e5 e6 e7 e8 e9
  have bq := bounds_u8 w1
  refine (decides_any x0 x2 x3 x4 x5 x6 x7 x8 x9 c1 c10 c11 a1 a2 a3 a4 W bq.1 bq.2).mono fun e W' ⟨he, bel⟩ => ?_
  subst he
  exact ⟨_, rfl, _, _, _, [], _, [], hW', trodAll_mk1 (shut_bool Try.underlying4 _), (trodAll_cons_mk (Below.trod laidOut (by kernel_rfl) (of_decide_eq_true (by kernel_rfl)) k0 bel lt0) (trodAll_cons_mk (shut_int Try.underlying5 w1) (trodAll_cons_mk (shut_int Try.underlying3 w2) (trodAll_cons_mk (shut_int Try.underlying3 w3) (trodAll_cons_mk (shut_bool Try.underlying4 _) trodAll_mk0))))), rfl, bel.frame _, fun h => by cases h⟩

theorem over : Rows.retryDecidesRow.holds Try.pinned (OpenSpec.ofChange Rows.retryDecidesSpec) :=
  OpenClaim.holds_of_wide 3 Try.f3 rfl rfl rfl rfl rfl rfl rfl ⟨rfl, rfl, rfl, rfl, rfl⟩ rfl rfl rfl rfl rfl (by kernel_rfl) Try.func3 (by kernel_rfl)
    (of_decide_eq_true (by kernel_rfl)) (by unfold Func.isWrapper; first | (rw [if_pos (by decide +kernel)]; kernel_rfl) | (rw [if_neg (by decide +kernel)]; exact ⟨rfl, rfl⟩))
    (fun os started H enc _ => lifted os started H enc)

theorem proved : Rows.RetryDecidesSaid := over
#print axioms proved
end Go.Proofs.Ytnmiamnmjcjjiaa.retryDecides
