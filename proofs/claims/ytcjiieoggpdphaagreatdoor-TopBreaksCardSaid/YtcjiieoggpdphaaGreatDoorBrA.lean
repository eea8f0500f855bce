/- TopBreaks: its code in pieces; that it answers true, from what the kernel says of its runs. No condition. -/
import Derived.Test.YtcjiieoggpdphaaGreatDoorBuA
namespace Go.Exe
open Go Go.Proofs

noncomputable def body4 : Code := match Tryz.f4.body with
  | some c => c
  | none => .skip
noncomputable def brk1 : Code := postC 3 body4
noncomputable def brk2 : Code := postC 1 brk1
noncomputable def brk3 : Code := postC 1 brk2
noncomputable def brk4 : Code := postC 5 brk3
/-- the opening, and from there on with so many requests that are idempotent, or not: case c is c / 2 of them, idempotent where c is odd -/
noncomputable def brkRun (k : Nat) (again : Bool) (lo n : Nat) : Bool := match (codeB envF (preC 5 brk3)).run callT (mkTm [(10, cI k), (3, .bool again)]) st0 with
  | .ok .normal tm st => allN (fun j => match (codeB envF brk4).run callT ((putB 2).f (.bool (Nat.beq (Nat.mod (Nat.add lo j) 2) 1)) ((putB 11).f (cI (Nat.div (Nat.add lo j) 2)) tm)) st with
      | .ok .ret tm _ => isTrueS ((getB 8).f tm)
      | _ => false) n
  | _ => false
noncomputable def brkKs : Bool := allN (fun n => leaves (preC 1 brk1) [(0, cU8 n)] 10 (cI (Nat.succ (Nat.succ (Nat.mod n 4))))) 256
noncomputable def brkMs : Bool := allN (fun n => leaves (preC 1 brk2) [(1, cU8 n)] 11 (cI (Nat.mod n 6))) 256

theorem fs4 : fsF 4 = some Tryz.f4 := by kernel_rfl
theorem body4_eq : Tryz.f4.body = some body4 := by
  unfold body4
  have hb : ∃ c, Tryz.f4.body = some c := ⟨_, rfl⟩
  obtain ⟨c, hb⟩ := hb
  rw [hb]
theorem ntmps4 : Tryz.f4.ntmps = 165 := by kernel_rfl
theorem res4 : Tryz.f4.results = #[.tmp 8] := by kernel_rfl
theorem long4_0 : longC 3 body4 = true := by kernel_rfl
theorem long4_1 : longC 1 brk1 = true := by kernel_rfl
theorem long4_2 : longC 1 brk2 = true := by kernel_rfl
theorem long4_3 : longC 5 brk3 = true := by kernel_rfl
theorem dst4_0 : allLt 165 (dsts (preC 3 body4)) = true := by kernel_rfl
theorem dst4_1 : allLt 165 (dsts (preC 1 brk1)) = true := by kernel_rfl
theorem dst4_2 : allLt 165 (dsts (preC 1 brk2)) = true := by kernel_rfl
theorem dst4_3 : allLt 165 (dsts (preC 5 brk3)) = true := by kernel_rfl
theorem dst4_4 : allLt 165 (dsts brk4) = true := by kernel_rfl
theorem not4_0 : notIn [0, 1, 2, 3] (preC 3 body4) = true := by kernel_rfl
theorem not4_1 : notIn [1, 2, 3] (preC 1 brk1) = true := by kernel_rfl
theorem not4_2 : notIn [2, 3, 10] (preC 1 brk2) = true := by kernel_rfl
theorem not4_3 : notIn [2, 11] (preC 5 brk3) = true := by kernel_rfl

/-- what the kernel says -/
structure BreaksFacts : Prop where
  A : ends (preC 3 body4) [] = true
  K : brkKs = true
  M : brkMs = true
  R : ∀ k again, 2 ≤ k → k ≤ 5 → ∀ c, c < 12 → ∃ lo n, brkRun k again lo n = true ∧ lo ≤ c ∧ c < lo + n

theorem brkRun_ok {k lo n c : Nat} {again : Bool} (h : brkRun k again lo n = true) (h1 : lo ≤ c) (h2 : c < lo + n) : ∃ tm st, (codeB envF (preC 5 brk3)).run callT (mkTm [(10, cI k), (3, .bool again)]) st0 = .ok .normal tm st ∧
    ∃ tm' st', (codeB envF brk4).run callT ((putB 2).f (.bool (Nat.beq (Nat.mod c 2) 1)) ((putB 11).f (cI (Nat.div c 2)) tm)) st = .ok .ret tm' st' ∧ (getB 8).f tm' = .bool true := by
  unfold brkRun at h
  split at h
  · rename_i tm st hr
    refine ⟨tm, st, hr, ?_⟩
    have h3 := allN_ok h (c - lo) (by omega)
    have e : Nat.add lo (c - lo) = c := by show lo + (c - lo) = c; omega
    rw [e] at h3
    split at h3
    · rename_i tm' st' hr'
      exact ⟨tm', st', hr', isTrueS_ok h3⟩
    · cases h3
  · cases h

end Go.Exe
namespace Go.Exe
open Go Go.Proofs Go.RowKit

theorem caseOf (m : Nat) (b : Bool) (hm : m < 6) : ∃ c, c < 12 ∧ Nat.div c 2 = m ∧ Nat.beq (Nat.mod c 2) 1 = b := by
  cases b with
  | false =>
    refine ⟨2 * m, by omega, ?_, ?_⟩
    · show 2 * m / 2 = m; omega
    · have : Nat.mod (2 * m) 2 = 0 := by show 2 * m % 2 = 0; omega
      rw [this]; rfl
  | true =>
    refine ⟨2 * m + 1, by omega, ?_, ?_⟩
    · show (2 * m + 1) / 2 = m; omega
    · have : Nat.mod (2 * m + 1) 2 = 1 := by show (2 * m + 1) % 2 = 1; omega
      rw [this]; rfl

set_option maxRecDepth 100000 in
theorem breaks_calls (H : BreaksFacts) (w : World) (hT : TabAt w) (n s : Nat) (idem again : Bool) (hn : n < 256) (hs : s < 256) :
    Calls Tryz.prog 4 #[.int .u8 (n : Int), .int .u8 (s : Int), .bool idem, .bool again] w fun e w' => e = .returned (.bool true) ∧ Below w.heap.size w w' := by
  refine calls_of_wp (funcs_all fs4) body4_eq ?_
  rw [ntmps4]
  have hargs : VRL (fun _ => none) [cU8 n, cU8 s, .bool idem, .bool again] (#[.int .u8 (n : Int), .int .u8 (s : Int), .bool idem, .bool again] : Array Value).toList := .cons (vrU.2 rfl) (.cons (vrU.2 rfl) (.cons (VR.bool_iff.2 rfl) (.cons (VR.bool_iff.2 rfl) .nil)))
  have htm0 := tmR_args (n := 165) hargs (by simp) (by decide)
  generalize hact : ({ tmps := #[.int .u8 (n : Int), .int .u8 (s : Int), .bool idem, .bool again] ++ Array.replicate (165 - (#[.int .u8 (n : Int), .int .u8 (s : Int), .bool idem, .bool again] : Array Value).size) undef, defers := [] } : Act) = a0 at htm0 ⊢
  have hd0 : a0.defers = [] := by rw [← hact]
  clear hact
  have hsz0 := htm0.size
  have h00 : a0.tmps.getD 0 undef = .int .u8 (n : Int) := by
    have h := htm0.rel 0 (by decide)
    rw [putArgs_get _ 0 _ 0 (by simp) (by decide)] at h
    exact vrU.1 h
  have h01 : a0.tmps.getD 1 undef = .int .u8 (s : Int) := by
    have h := htm0.rel 1 (by decide)
    rw [putArgs_get _ 0 _ 1 (by simp) (by decide)] at h
    exact vrU.1 h
  have h02 : a0.tmps.getD 2 undef = .bool idem := by
    have h := htm0.rel 2 (by decide)
    rw [putArgs_get _ 0 _ 2 (by simp) (by decide)] at h
    exact VR.bool_iff.1 h
  have h03 : a0.tmps.getD 3 undef = .bool again := by
    have h := htm0.rel 3 (by decide)
    rw [putArgs_get _ 0 _ 3 (by simp) (by decide)] at h
    exact VR.bool_iff.1 h
  have hm5 : (165 : Nat) ≤ 512 := by decide
  -- it is awake
  obtain ⟨tmA, sA, hrA⟩ := ends_ok H.A
  refine quiet_ok long4_0 dst4_0 hm5 hrA hsz0 (ok0 w hT) (by simp) fun a1 w1 ρ1 ok1 tm1 d1 f1 => ?_
  have n0 := notIn_ok not4_0
  have h10 := (f1 0 (n0 0 (by simp))).trans h00
  have h11 := (f1 1 (n0 1 (by simp))).trans h01
  have h12 := (f1 2 (n0 2 (by simp))).trans h02
  have h13 := (f1 3 (n0 3 (by simp))).trans h03
  -- k
  obtain ⟨tmK, sK, hrK, hvK⟩ := leaves_ok (allN_ok H.K n hn)
  refine quiet_ok (c := brk1) long4_1 dst4_1 hm5 hrK tm1.size ok1 (by intro p hp; rw [List.mem_singleton.1 hp]; exact ⟨by show (0 : Nat) < 512; decide, vrU.2 h10⟩) fun a2 w2 ρ2 ok2 tm2 d2 f2 => ?_
  have n1 := notIn_ok not4_1
  have h21 := (f2 1 (n1 1 (by simp))).trans h11
  have h22 := (f2 2 (n1 2 (by simp))).trans h12
  have h23 := (f2 3 (n1 3 (by simp))).trans h13
  have h2k := tm2.rel 10 (by decide)
  rw [hvK, vrI] at h2k
  -- m
  obtain ⟨tmS, sS, hrS, hvS⟩ := leaves_ok (allN_ok H.M s hs)
  refine quiet_ok (c := brk2) long4_2 dst4_2 hm5 hrS tm2.size ok2 (by intro p hp; rw [List.mem_singleton.1 hp]; exact ⟨by show (1 : Nat) < 512; decide, vrU.2 h21⟩) fun a3 w3 ρ3 ok3 tm3 d3 f3 => ?_
  have n2 := notIn_ok not4_2
  have h32 := (f3 2 (n2 2 (by simp))).trans h22
  have h33 := (f3 3 (n2 3 (by simp))).trans h23
  have h3k := (f3 10 (n2 10 (by simp))).trans h2k
  have h3m := tm3.rel 11 (by decide)
  rw [hvS, vrI] at h3m
  obtain ⟨k, hk⟩ : ∃ k, Nat.succ (Nat.succ (Nat.mod n 4)) = k := ⟨_, rfl⟩
  obtain ⟨m, hm⟩ : ∃ m, Nat.mod s 6 = m := ⟨_, rfl⟩
  rw [hk] at h3k
  rw [hm] at h3m
  have hk1 : 2 ≤ k ∧ k ≤ 5 := by have : Nat.mod n 4 < 4 := Nat.mod_lt _ (by decide); omega
  have hm1 : m < 6 := by rw [← hm]; exact Nat.mod_lt _ (by decide)
  obtain ⟨c, hc, hcm, hcb⟩ := caseOf m idem hm1
  obtain ⟨lo, mm, hrun, hlo1, hlo2⟩ := H.R k again hk1.1 hk1.2 c hc
  obtain ⟨tmC, sC, hrC, tmE, sE, hrE, hvE⟩ := brkRun_ok hrun hlo1 hlo2
  rw [hcm, hcb] at hrE
  -- the opening
  have hF3 : ∀ b o, (ctx0 w hT).F b = some o → w3.heap[b]? = some o := fun b o hb => (ok3.far b o hb).1
  refine fresh_ok (c := brk3) (C := ctx0 w hT) long4_3 dst4_3 hm5 hrC tm3.size hF3 (by
    intro p hp
    rcases List.mem_cons.1 hp with rfl | hp
    · exact ⟨by show (10 : Nat) < 512; decide, vrI.2 h3k⟩
    · rw [List.mem_singleton.1 hp]; exact ⟨by show (3 : Nat) < 512; decide, VR.bool_iff.2 h33⟩) fun a4 w4 ρ4 ok4 tm4 hl4 d4 f4 => ?_
  have n3 := notIn_ok not4_3
  have h42 := (f4 2 (n3 2 (by simp))).trans h32
  have h4m := (f4 11 (n3 11 (by simp))).trans h3m
  have htm : TmR ρ4 165 ((putB 2).f (.bool idem) ((putB 11).f (cI m) tmC)) a4 := by
    refine ⟨tm4.size, hm5, fun t ht => ?_⟩
    by_cases e : t = 2
    · subst e
      rw [get_put_same _ _ ht]
      exact VR.bool_iff.2 h42
    · rw [get_put_ne _ _ (by decide) ht e]
      by_cases e2 : t = 11
      · subst e2
        rw [get_put_same _ _ ht]
        exact vrI.2 h4m
      · rw [get_put_ne _ _ (by decide) ht e2]
        exact tm4.rel t ht
  -- the rest
  refine code_ok envOk soundT follows_mixed hm5 brk4 (allLt_ok dst4_4) _ _ _ _ _ hrE _ ρ4 a4 w4 htm ok4 hl4 _ fun ρ6 a6 w6 x1 x2 x3 x4 x5 => ?_
  have h66 := x2.rel 8 (by decide)
  rw [hvE, VR.bool_iff] at h66
  refine ⟨?_, .bool true, ?_, rfl, below0 (ok3.go x5)⟩
  · rw [x3, d4, d3, d2, d1, hd0]
  · have : results Tryz.f4 a6.tmps = (pure (a6.tmps.getD 8 undef) : Sem Value) := by
      unfold results
      rw [res4]
      simp
    rw [this, h66]
    rfl

end Go.Exe
