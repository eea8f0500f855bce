/- TopBusy: its code in pieces; that it answers true, from what the kernel says of its runs. No condition. -/
import Derived.Test.YtcjiieoggpdphaaGreatDoorExI
namespace Go.Exe
open Go Go.Proofs

noncomputable def body3 : Code := match Tryz.f3.body with
  | some c => c
  | none => .skip
noncomputable def cU8 (n : Nat) : SV := .int .u8 (.ofNat n)
noncomputable def cI (n : Nat) : SV := .int .i64 (.ofNat n)
noncomputable def busy1 : Code := postC 3 body3
noncomputable def busy2 : Code := postC 1 busy1
noncomputable def busy3 : Code := postC 1 busy2
noncomputable def busy4 : Code := postC 7 busy3
noncomputable def busy5 : Code := postC 1 busy4
/-- the submissions, all of them, and from each that is answered on -/
noncomputable def busyRun (k s lo m : Nat) : Bool := match (codeB envF (preC 7 busy3)).run callT (mkTm [(8, cI k), (9, cI s)]) st0 with
  | .ok .normal tm st => match blank (dsts (preC 1 busy4)) tm with
    | tm => allN (fun j => match (codeB envF busy5).run callT ((putB 19).f (cI (Nat.add lo j)) tm) st with
      | .ok .ret tm _ => isTrueS ((getB 6).f tm)
      | _ => false) m
  | _ => false
noncomputable def busyDs (k s : Nat) : Bool := allN (fun f => leaves (preC 1 busy4) [(2, cU8 f), (8, cI k), (9, cI s)] 19 (cI (Nat.mod f (Nat.mul k s)))) 256
noncomputable def busyKs : Bool := allN (fun n => leaves (preC 1 busy1) [(0, cU8 n)] 8 (cI (Nat.succ (Nat.mod n 4)))) 256
noncomputable def busySs : Bool := allN (fun n => leaves (preC 1 busy2) [(1, cU8 n)] 9 (cI (Nat.succ (Nat.mod n 5)))) 256

theorem fs3 : fsF 3 = some Tryz.f3 := by kernel_rfl
theorem body3_eq : Tryz.f3.body = some body3 := by
  unfold body3
  have hb : ∃ c, Tryz.f3.body = some c := ⟨_, rfl⟩
  obtain ⟨c, hb⟩ := hb
  rw [hb]
theorem ntmps3 : Tryz.f3.ntmps = 172 := by kernel_rfl
theorem res3 : Tryz.f3.results = #[.tmp 6] := by kernel_rfl
theorem long0 : longC 3 body3 = true := by kernel_rfl
theorem long1 : longC 1 busy1 = true := by kernel_rfl
theorem long2 : longC 1 busy2 = true := by kernel_rfl
theorem long3 : longC 7 busy3 = true := by kernel_rfl
theorem long4 : longC 1 busy4 = true := by kernel_rfl
theorem dst0 : allLt 172 (dsts (preC 3 body3)) = true := by kernel_rfl
theorem dst1 : allLt 172 (dsts (preC 1 busy1)) = true := by kernel_rfl
theorem dst2 : allLt 172 (dsts (preC 1 busy2)) = true := by kernel_rfl
theorem dst3 : allLt 172 (dsts (preC 7 busy3)) = true := by kernel_rfl
theorem dst4 : allLt 172 (dsts (preC 1 busy4)) = true := by kernel_rfl
theorem dst5 : allLt 172 (dsts busy5) = true := by kernel_rfl
/-- these temporaries are not written -/
noncomputable def notIn (l : List Nat) (c : Code) : Bool := match l with
  | [] => true
  | t :: l => match (dsts c).any (fun d => Nat.beq d t) with
    | true => false
    | false => notIn l c
theorem notIn_ok {c : Code} : ∀ {l : List Nat}, notIn l c = true → ∀ t ∈ l, t ∉ dsts c
  | t :: l, h, u, hu => by
    unfold notIn at h
    split at h
    · cases h
    · rename_i hn
      rcases List.mem_cons.1 hu with rfl | hu
      · intro hh
        rw [List.any_eq_false] at hn
        exact hn u hh (Nat.beq_refl _)
      · exact notIn_ok h u hu
theorem not0 : notIn [0, 1, 2] (preC 3 body3) = true := by kernel_rfl
theorem not1 : notIn [1, 2] (preC 1 busy1) = true := by kernel_rfl
theorem not2 : notIn [2, 8] (preC 1 busy2) = true := by kernel_rfl
theorem not3 : notIn [2, 8, 9] (preC 7 busy3) = true := by kernel_rfl

end Go.Exe
namespace Go.Exe
open Go Go.Proofs Go.RowKit

/-- what the kernel says -/
structure BusyFacts : Prop where
  A : ends (preC 3 body3) [] = true
  K : busyKs = true
  S : busySs = true
  D : ∀ k s, 1 ≤ k → k ≤ 4 → 1 ≤ s → s ≤ 5 → busyDs k s = true
  R : ∀ k s, 1 ≤ k → k ≤ 4 → 1 ≤ s → s ≤ 5 → ∀ j, j < k * s → ∃ lo m, busyRun k s lo m = true ∧ lo ≤ j ∧ j < lo + m

theorem busyRun_ok {k s lo m j : Nat} (h : busyRun k s lo m = true) (h1 : lo ≤ j) (h2 : j < lo + m) : ∃ tm st, (codeB envF (preC 7 busy3)).run callT (mkTm [(8, cI k), (9, cI s)]) st0 = .ok .normal tm st ∧
    ∃ tm' st', (codeB envF busy5).run callT ((putB 19).f (cI j) (blank (dsts (preC 1 busy4)) tm)) st = .ok .ret tm' st' ∧ (getB 6).f tm' = .bool true := by
  unfold busyRun at h
  split at h
  · rename_i tm st hr
    refine ⟨tm, st, hr, ?_⟩
    have h3 := allN_ok h (j - lo) (by omega)
    have e : Nat.add lo (j - lo) = j := by show lo + (j - lo) = j; omega
    rw [e] at h3
    split at h3
    · rename_i tm' st' hr'
      exact ⟨tm', st', hr', isTrueS_ok h3⟩
    · cases h3
  · cases h

/-- what is so of the memory: the table -/
def TabAt (w : World) : Prop := ∃ a t fr, w.heap[3]? = some (.cells a t fr) ∧ ∀ j, j < 64 → a[j]? = some (.int .u8 ((Lib.deBruijn64tab.getD j 0 : Nat) : Int))
def ctx0 (w : World) (h : TabAt w) : Ctx := ⟨w, fun b => w.heap[b]?, fun _ => none, h⟩
theorem ok0 (w : World) (h : TabAt w) : Ok (ctx0 w h) (fun _ => none) st0 w :=
  ⟨rfl, rfl, rfl, fun _ _ h => (by cases h), fun _ _ _ _ h => (by cases h), fun b o hb => ⟨hb, fun _ _ h => (by cases h)⟩, fun _ _ h => (by cases h), by show (100 : Nat) ≤ 32768; decide, fun _ _ _ h => (by cases h)⟩
theorem below0 {w w' : World} {h : TabAt w} {ρ : Ren} {s : ST} (k : Ok (ctx0 w h) ρ s w') : Below w.heap.size w w' := by
  have keep : ∀ b o, w.heap[b]? = some o → w'.heap[b]? = some o := fun b o hb => (k.far b o hb).1
  refine ⟨k.os, k.tape, k.output, ?_, fun i hi => ?_⟩
  · by_cases h0 : w.heap.size = 0
    · omega
    · have h1 := keep (w.heap.size - 1) _ (Array.getElem?_eq_getElem (by omega))
      have := (Array.getElem?_eq_some_iff.1 h1).1
      omega
  · rw [Array.getElem?_eq_getElem hi]
    exact keep i _ (Array.getElem?_eq_getElem hi)

theorem vrI {ρ : Ren} {n : Nat} {v : Value} : VR ρ (cI n) v ↔ v = .int .i64 (n : Int) := VR.int_iff
theorem vrU {ρ : Ren} {n : Nat} {v : Value} : VR ρ (cU8 n) v ↔ v = .int .u8 (n : Int) := VR.int_iff

set_option maxRecDepth 100000 in
theorem busy_calls (H : BusyFacts) (w : World) (hT : TabAt w) (n s f : Nat) (hn : n < 256) (hs : s < 256) (hf : f < 256) :
    Calls Tryz.prog 3 #[.int .u8 (n : Int), .int .u8 (s : Int), .int .u8 (f : Int)] w fun e w' => e = .returned (.bool true) ∧ Below w.heap.size w w' := by
  refine calls_of_wp (funcs_all fs3) body3_eq ?_
  rw [ntmps3]
  have hargs : VRL (fun _ => none) [cU8 n, cU8 s, cU8 f] (#[.int .u8 (n : Int), .int .u8 (s : Int), .int .u8 (f : Int)] : Array Value).toList := .cons (vrU.2 rfl) (.cons (vrU.2 rfl) (.cons (vrU.2 rfl) .nil))
  have htm0 := tmR_args (n := 172) hargs (by simp) (by decide)
  generalize hact : ({ tmps := #[.int .u8 (n : Int), .int .u8 (s : Int), .int .u8 (f : Int)] ++ Array.replicate (172 - (#[.int .u8 (n : Int), .int .u8 (s : Int), .int .u8 (f : Int)] : Array Value).size) undef, defers := [] } : Act) = a0 at htm0 ⊢
  have hd0 : a0.defers = [] := by rw [← hact]
  clear hact
  have hsz0 := htm0.size
  have h00 : a0.tmps.getD 0 undef = .int .u8 (n : Int) := by
    have h := htm0.rel 0 (by decide)
    rw [putArgs_get _ 0 _ 0 (by simp) (by decide)] at h
    exact vrU.1 h
  have h01 : a0.tmps.getD 1 undef = .int .u8 (s : Int) := by
    have h := htm0.rel 1 (by decide)
    rw [putArgs_get _ 0 _ 1 (by simp) (by decide)] at h
    exact vrU.1 h
  have h02 : a0.tmps.getD 2 undef = .int .u8 (f : Int) := by
    have h := htm0.rel 2 (by decide)
    rw [putArgs_get _ 0 _ 2 (by simp) (by decide)] at h
    exact vrU.1 h
  have hm5 : (172 : Nat) ≤ 512 := by decide
  -- it is awake
  obtain ⟨tmA, sA, hrA⟩ := ends_ok H.A
  refine quiet_ok long0 dst0 hm5 hrA hsz0 (ok0 w hT) (by simp) fun a1 w1 ρ1 ok1 tm1 d1 f1 => ?_
  have n0 := notIn_ok not0
  have h11 := (f1 1 (n0 1 (by simp))).trans h01
  have h12 := (f1 2 (n0 2 (by simp))).trans h02
  have h10 := (f1 0 (n0 0 (by simp))).trans h00
  -- k
  obtain ⟨tmK, sK, hrK, hvK⟩ := leaves_ok (allN_ok H.K n hn)
  refine quiet_ok (c := busy1) long1 dst1 hm5 hrK tm1.size ok1 (by intro p hp; rw [List.mem_singleton.1 hp]; exact ⟨by show (0 : Nat) < 512; decide, vrU.2 h10⟩) fun a2 w2 ρ2 ok2 tm2 d2 f2 => ?_
  have n1 := notIn_ok not1
  have h21 := (f2 1 (n1 1 (by simp))).trans h11
  have h22 := (f2 2 (n1 2 (by simp))).trans h12
  have h28 := tm2.rel 8 (by decide)
  rw [hvK, vrI] at h28
  -- s
  obtain ⟨tmS, sS, hrS, hvS⟩ := leaves_ok (allN_ok H.S s hs)
  refine quiet_ok (c := busy2) long2 dst2 hm5 hrS tm2.size ok2 (by intro p hp; rw [List.mem_singleton.1 hp]; exact ⟨by show (1 : Nat) < 512; decide, vrU.2 h21⟩) fun a3 w3 ρ3 ok3 tm3 d3 f3 => ?_
  have n2 := notIn_ok not2
  have h32 := (f3 2 (n2 2 (by simp))).trans h22
  have h38 := (f3 8 (n2 8 (by simp))).trans h28
  have h39 := tm3.rel 9 (by decide)
  rw [hvS, vrI] at h39
  obtain ⟨k, hk⟩ : ∃ k, Nat.succ (Nat.mod n 4) = k := ⟨_, rfl⟩
  obtain ⟨m, hm⟩ : ∃ m, Nat.succ (Nat.mod s 5) = m := ⟨_, rfl⟩
  rw [hk] at h38
  rw [hm] at h39
  have hk1 : 1 ≤ k ∧ k ≤ 4 := by have : Nat.mod n 4 < 4 := Nat.mod_lt _ (by decide); omega
  have hm1 : 1 ≤ m ∧ m ≤ 5 := by have : Nat.mod s 5 < 5 := Nat.mod_lt _ (by decide); omega
  have hkm : 0 < k * m := Nat.mul_pos hk1.1 hm1.1
  obtain ⟨j, hj⟩ : ∃ j, Nat.mod f (Nat.mul k m) = j := ⟨_, rfl⟩
  have hjl : j < k * m := by rw [← hj]; exact Nat.mod_lt _ hkm
  obtain ⟨lo, mm, hrun, hlo1, hlo2⟩ := H.R k m hk1.1 hk1.2 hm1.1 hm1.2 j hjl
  obtain ⟨tmC, sC, hrC, tmE, sE, hrE, hvE⟩ := busyRun_ok hrun hlo1 hlo2
  -- the submissions
  have hF3 : ∀ b o, (ctx0 w hT).F b = some o → w3.heap[b]? = some o := fun b o hb => (ok3.far b o hb).1
  refine fresh_ok (c := busy3) (C := ctx0 w hT) long3 dst3 hm5 hrC tm3.size hF3 (by
    intro p hp
    rcases List.mem_cons.1 hp with rfl | hp
    · exact ⟨by show (8 : Nat) < 512; decide, vrI.2 h38⟩
    · rw [List.mem_singleton.1 hp]; exact ⟨by show (9 : Nat) < 512; decide, vrI.2 h39⟩) fun a4 w4 ρ4 ok4 tm4 hl4 d4 f4 => ?_
  have n3 := notIn_ok not3
  have h42 := (f4 2 (n3 2 (by simp))).trans h32
  have h48 := (f4 8 (n3 8 (by simp))).trans h38
  have h49 := (f4 9 (n3 9 (by simp))).trans h39
  -- j
  obtain ⟨tmD, sD, hrD, hvD⟩ := leaves_ok (allN_ok (H.D k m hk1.1 hk1.2 hm1.1 hm1.2) f hf)
  refine quiet_ok (c := busy4) long4 dst4 hm5 hrD tm4.size ok4 (by
    intro p hp
    rcases List.mem_cons.1 hp with rfl | hp
    · exact ⟨by show (2 : Nat) < 512; decide, vrU.2 h42⟩
    · rcases List.mem_cons.1 hp with rfl | hp
      · exact ⟨by show (8 : Nat) < 512; decide, vrI.2 h48⟩
      · rw [List.mem_singleton.1 hp]; exact ⟨by show (9 : Nat) < 512; decide, vrI.2 h49⟩) fun a5 w5 ρ5 ok5 tm5 d5 f5 => ?_
  have h519 := tm5.rel 19 (by decide)
  rw [hvD, hj] at h519
  have hds := allLt_ok dst4
  have htm : TmR ρ4 172 ((putB 19).f (cI j) (blank (dsts (preC 1 busy4)) tmC)) a5 := by
    refine ⟨tm5.size, hm5, fun t ht => ?_⟩
    by_cases e : t = 19
    · subst e
      rw [get_put_same _ _ ht]
      exact vrI.2 (vrI.1 h519)
    · rw [get_put_ne _ _ (by decide) ht e, blank_get (fun u hu => Nat.lt_of_lt_of_le (hds u hu) hm5) t ht]
      split
      · simp [VR]
      · rename_i htd
        rw [f5 t htd]
        exact tm4.rel t ht
  -- the rest
  refine code_ok envOk soundT follows_mixed hm5 busy5 (allLt_ok dst5) _ _ _ _ _ hrE _ ρ4 a5 w5 htm ok5 hl4 _ fun ρ6 a6 w6 x1 x2 x3 x4 x5 => ?_
  have h66 := x2.rel 6 (by decide)
  rw [hvE, VR.bool_iff] at h66
  refine ⟨?_, .bool true, ?_, rfl, below0 (ok3.go x5)⟩
  · rw [x3, d5, d4, d3, d2, d1, hd0]
  · have : results Tryz.f3 a6.tmps = (pure (a6.tmps.getD 6 undef) : Sem Value) := by
      unfold results
      rw [res3]
      simp
    rw [this, h66]
    rfl

end Go.Exe
