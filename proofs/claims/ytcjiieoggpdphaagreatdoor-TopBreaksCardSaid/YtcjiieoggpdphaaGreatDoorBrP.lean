/- Of every input TopBreaks returns true, and each argument reads as it did; the listed variables are tied to the program's text. No condition but these. -/
import Derived.Test.YtcjiieoggpdphaaGreatDoorCards
import Derived.Test.YtcjiieoggpdphaaGreatDoorTi
import Derived.Test.YtcjiieoggpdphaaGreatDoorGs
import Derived.Test.YtcjiieoggpdphaaGreatDoorBrW
import Derived.Test.YtcjiieoggpdphaaGreatDoorBrJ
import Derived.Test.YtcjiieoggpdphaaGreatDoorBrF
import Derived.ProofKit
import Derived.OpenShut
import Derived.ShutString
import Derived.ChangeOld
import Derived.Below
import Derived.SizedLaws
import Derived.LaidMore
import Derived.Lay
import Derived.SevenTiedAt
import Derived.Stop.Joined
import Derived.Lib.LaidU8
namespace Go.Proofs.YtcjiieoggpdphaaGreatDoor.topBreaks
open Go.ChangeShapes Go.WideShapes Go.ChangeAt Go.RowKit
set_option linter.unusedVariables false

/-- the table, as the condition has it -/
theorem tab_of {W : World} (h : laidMetH Tryz.prog Rows.topBreaksRow.laid W) : Go.Exe.TabAt W := by
  rw [MakeChecks.laidMetH_plain _ _ _ (by kernel_rfl)] at h
  have hmem : ("math/bits.deBruijn64tab", (Rows.laid_math_bits_deBruijn64tab : DataW Unit)) ∈ Rows.topBreaksRow.laid := by simp [Rows.topBreaksRow]
  obtain ⟨g, t, cs, fuel, p, hg, ht, hv, hd⟩ := Lib.laidMet.reads h hmem
  obtain rfl := Option.some.inj ((show Tryz.prog.globalNamed "math/bits.deBruijn64tab" = some 3 by kernel_rfl).symm.trans hg)
  obtain rfl := Option.some.inj ((show (Tryz.prog.globals[3]?).map (·.type) = some 619 by kernel_rfl).symm.trans ht)
  obtain ⟨xs, m, _, ex, _, hl, hel⟩ := DataW.trod_array Tryz.underlying619 hd
  have c5 : Tryz.prog.cellsOf 5 = 1 := by kernel_rfl
  have hdat : (Rows.laid_math_bits_deBruijn64tab : DataW Unit) = .agg (Lib.deBruijn64tab.map fun (n : Nat) => .lit (.int .u8 (n : Int))) := by kernel_rfl
  have hlen : Lib.deBruijn64tab.length = 64 := by kernel_rfl
  have e3 : xs.map (·.1) = Lib.deBruijn64tab.map fun (n : Nat) => (DataW.lit (.int .u8 (n : Int)) : DataW Unit) := by
    have := (Prod.mk.inj ex).1
    rw [hdat] at this
    exact (DataW.agg.inj this).symm
  have hcell : ∀ r, r < 64 → W.cell? ⟨3, r, none⟩ = some (.int .u8 ((Lib.deBruijn64tab.getD r 0 : Nat) : Int)) := by
    intro r hr
    have hE := hel r hr
    rw [c5, Nat.mul_one, List.getElem?_eq_getElem (by omega)] at hE
    obtain ⟨z, e1, e2, _⟩ := DataW.trod_int Tryz.underlying5 hE
    have e4 : (xs.map (·.1))[r]? = (Lib.deBruijn64tab.map fun (n : Nat) => (DataW.lit (.int .u8 (n : Int)) : DataW Unit))[r]? := by rw [e3]
    rw [List.getElem?_map, List.getElem?_map, List.getElem?_eq_getElem (by omega : r < xs.length), List.getElem?_eq_getElem (by omega : r < Lib.deBruijn64tab.length), e2] at e4
    have hz : z = ((Lib.deBruijn64tab.getD r 0 : Nat) : Int) := by
      simp only [Option.map_some, Option.some.injEq, DataW.lit.injEq, Lit.int.injEq, true_and] at e4
      rw [e4, List.getD, List.getElem?_eq_getElem (by omega : r < Lib.deBruijn64tab.length)]; rfl
    rw [World.var?_cell hg hv r, ← hz]
    have : cs.toList[r]? = some (.int .u8 z) := by
      have h0 : ((cs.toList.drop r).take 1)[0]? = some (.int .u8 z) := by rw [e1]; rfl
      simpa using h0
    simpa using this
  have h0 := hcell 0 (by decide)
  unfold World.cell? at h0
  split at h0
  · rename_i a t fr hh
    refine ⟨a, t, fr, hh, fun r hr => ?_⟩
    have h1 := hcell r hr
    unfold World.cell? at h1
    simp only [hh, Option.isSome_none, Bool.false_eq_true, if_false] at h1
    exact h1
  · cases h0

set_option maxRecDepth 100000 in
theorem lifted (os : Os) (started : os.Started) (H : Type) (enc : TypeId × Value → H) :
    ReturnsInHanded {} Tryz.checked os 4 .any (fun w args => (Rows.topBreaksSpec.pre enc Tryz.prog Tryz.f4 [] false w args ∧ laidMetH Tryz.prog Rows.topBreaksRow.laid w) ∧ sizedMet enc Tryz.prog Tryz.f4 (OpenSpec.ofChange Rows.topBreaksSpec) false w args)
      (Rows.topBreaksSpec.post enc Tryz.prog Tryz.f4 false true false false) := by
  refine returnsInHanded_of_change_and (C := Tryz.checked) (X := fun w _ => laidMetH Tryz.prog Rows.topBreaksRow.laid w) (fun _ _ _ hh h => h.of_heap hh) own started w0 Tryz.func4
    (ChangeSpec.witness_shaped (enc := enc) (C := Tryz.checked) (os := os) (X := fun w _ => laidMetH Tryz.prog Rows.topBreaksRow.laid w) false (wit os) witA 8 (World.laidAll_os _ _ _)
      (World.shaped_of_ZipB (w1 os) (w2 os)) (w3 os) (w4 os H enc) (w5 os H enc)
      (by rw [MakeChecks.laidMetH_plain _ _ _ w6]; exact laidMet_laidAll _ (w7 os) (w8 os))) ?_
  intro W base args ds gs before hval0 hW _ _ hL _
  have hval : ∀ (j : Nat) t v, Tryz.f4.params[j]? = some t → args[j]? = some v → Value.okWide Tryz.prog W .any base t v := hval0
  have hW' := hW
  obtain ⟨p, q, hA0, hV, rfl, _, _⟩ := hW
  have hA : DataW.TrodAll enc Tryz.prog W 0 (fun _ => true) true Tryz.f4.params.toList args.toList ds p := hA0
  rw [Tryz.params4] at hA hval
  obtain ⟨v0, vs0, d0, ds0, p0, q0, hargs, rfl, rfl, h0, r0⟩ := trodAll_cons hA
  obtain ⟨v1, vs1, d1, ds1, p1, q1, rfl, rfl, rfl, h1, r1⟩ := trodAll_cons r0
  obtain ⟨v2, vs2, d2, ds2, p2, q2, rfl, rfl, rfl, h2, r2⟩ := trodAll_cons r1
  obtain ⟨v3, vs3, d3, ds3, p3, q3, rfl, rfl, rfl, h3, r3⟩ := trodAll_cons r2
  obtain ⟨rfl, rfl, rfl⟩ := trodAll_nil r3
  obtain rfl : args = #[v0, v1, v2, v3] := by cases args; simp_all
  obtain ⟨rfl, rfl⟩ := trodVars_none hV
  obtain ⟨a0, rfl, rfl, rfl, w0⟩ := open_int Tryz.underlying5 (hval 0 5 v0 rfl rfl) h0
  obtain ⟨a1, rfl, rfl, rfl, w1⟩ := open_int Tryz.underlying5 (hval 1 5 v1 rfl rfl) h1
  obtain ⟨a2, rfl, rfl, rfl⟩ := open_bool Tryz.underlying4 (hval 2 4 v2 rfl rfl) h2
  obtain ⟨a3, rfl, rfl, rfl⟩ := open_bool Tryz.underlying4 (hval 3 4 v3 rfl rfl) h3
  clear hA0 hval0
  have b0 : 0 ≤ a0 ∧ a0 ≤ 255 := by simpa [Lit.wf, IntKind.min, IntKind.max, IntKind.signed, IntKind.bits] using w0
  obtain ⟨n0, rfl⟩ := Int.eq_ofNat_of_zero_le b0.1
  have b1 : 0 ≤ a1 ∧ a1 ≤ 255 := by simpa [Lit.wf, IntKind.min, IntKind.max, IntKind.signed, IntKind.bits] using w1
  obtain ⟨n1, rfl⟩ := Int.eq_ofNat_of_zero_le b1.1
  refine (Go.Exe.breaks_calls Go.Exe.breaksFacts W (tab_of hL) n0 n1 a2 a3 (by omega) (by omega)).mono fun e W' ⟨he, bel⟩ => ?_
  subst he
  exact ⟨_, rfl, _, _, _, [], _, [], hW', trodAll_mk1 (shut_bool Tryz.underlying4 _), (trodAll_cons_mk (shut_int Tryz.underlying5 w0) (trodAll_cons_mk (shut_int Tryz.underlying5 w1) (trodAll_cons_mk (shut_bool Tryz.underlying4 _) (trodAll_cons_mk (shut_bool Tryz.underlying4 _) trodAll_mk0)))), rfl, bel.frame _, fun h => by cases h⟩

theorem over : Rows.topBreaksRow.holds Tryz.pinned (OpenSpec.ofChange Rows.topBreaksSpec) :=
  OpenClaim.holds_of_wide 4 Tryz.f4 rfl rfl rfl rfl rfl rfl rfl ⟨rfl, rfl, rfl, rfl, rfl⟩ rfl rfl rfl rfl rfl (by kernel_rfl) Tryz.func4 joined
    (of_decide_eq_true (by kernel_rfl)) (by unfold Func.isWrapper; first | (rw [if_pos (by decide +kernel)]; kernel_rfl) | (rw [if_neg (by decide +kernel)]; exact ⟨rfl, rfl⟩))
    (fun os started H enc _ => lifted os started H enc)

theorem row_tie : Rows.topBreaksRow.laidByTextAt .later Tryz.pinned [.pinned, .data, .sentinel, .sentinel, .data, .data, .data, .data] true :=
  OpenClaim.laidByTextAt_pinned rfl rfl tieP rfl rfl rfl rfl (fun y hy _e => by
    simp only [Rows.topBreaksRow, List.zip_cons_cons, List.zip_nil_right, List.mem_cons, List.mem_nil_iff, or_false] at hy
    rcases hy with rfl | rfl | rfl | rfl | rfl | rfl | rfl | rfl
    · exact ⟨pinFirst, by kernel_rfl⟩
    · cases _e
    · cases _e
    · cases _e
    · cases _e
    · cases _e
    · cases _e
    · cases _e) fitsAll

theorem byText : Rows.topBreaksRow.wfByText (OpenSpec.ofChange Rows.topBreaksSpec) = true := by kernel_rfl
theorem mainAs : Tryz.pinned.checked.prog.mainIs = some (true, "b5ea21ce697b87fc517b7c79d9c07c1cd3b50cc2031c514a72d1dbddf181db17".toList) := by kernel_rfl
theorem looksAs : true = Tryz.prog.looks [] := by kernel_rfl
theorem goesAs : false = Rows.topBreaksRow.goesBy Tryz.pinned.checked.prog := goesBy_no rfl nogo

theorem proved : Rows.TopBreaksCardSaid :=
  Claim7.holds_tied_plain_at .later [] [.pinned, .data, .sentinel, .sentinel, .data, .data, .data, .data] true (true, "b5ea21ce697b87fc517b7c79d9c07c1cd3b50cc2031c514a72d1dbddf181db17") true
    over (fun _ h => by cases h) byText (fun _ h => by cases h) row_tie rfl ⟨rfl, rfl⟩ mainAs rfl
    (fun f fn hf hfn => by
      obtain rfl : f = 4 := Option.some.inj ((show Tryz.prog.funcNamed "signalbox/signalboxtop.TopBreaks" = some 4 by kernel_rfl).symm.trans hf) |>.symm
      obtain rfl : fn = Tryz.f4 := (Option.some.inj (Tryz.func4.symm.trans hfn)).symm
      exact ⟨looksAs, fun j t ht => by
        rw [Tryz.params4] at ht
        have hm : t ∈ [5, 5, 4, 4] := by simpa using Array.mem_of_getElem? ht
        have hall : ([5, 5, 4, 4].all fun u => !Tryz.prog.wantsStandIn u) = true := by kernel_rfl
        exact (show Tryz.prog.wantsStandIn t = false by simpa using List.all_eq_true.1 hall t hm)⟩)
    goesAs
end Go.Proofs.YtcjiieoggpdphaaGreatDoor.topBreaks
