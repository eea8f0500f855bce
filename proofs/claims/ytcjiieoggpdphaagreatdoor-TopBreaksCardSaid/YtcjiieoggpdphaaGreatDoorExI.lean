/- Calls are followed rightly; code in pieces. No condition. -/
import Derived.Test.YtcjiieoggpdphaaGreatDoorExH
namespace Go.Exe
open Go Go.Proofs

theorem dieP_eq : dieP = (funcG envF (fkB [] (some 2)) 146).run := by
  unfold dieP
  generalize funcG envF (fkB [] (some 2)) 146 = d
  cases d
  rfl
theorem diedP_eq : diedP = (funcG envF (fkD 5) 76).run := by
  unfold diedP
  generalize funcG envF (fkD 5) 76 = d
  cases d
  rfl
theorem prim146 (K : CallF) (hK : ∀ g, CallOk Tryz.prog g (K g)) : CallOk Tryz.prog 146 (dieP K) := by
  rw [dieP_eq]
  exact funcG_ok (fkB_ok (by simp)) envOk nmOk (fun o => opB_sound envOk ktOk hK o) follows_mixed 146
theorem prim76 (K : CallF) (hK : ∀ g, CallOk Tryz.prog g (K g)) : CallOk Tryz.prog 76 (diedP K) := by
  rw [diedP_eq]
  exact funcG_ok (fkD_ok (by decide)) envOk nmOk (fun o => opB_sound envOk ktOk hK o) follows_mixed 76

theorem primOk : PrimOk Tryz.prog envF primT := by
  intro f p h K hK
  unfold primT at h
  split at h
  · cases h; exact prim26 K
  · cases h; exact prim80 K
  · cases h; exact prim149 K
  · cases h; exact prim140 K
  · cases h; exact prim119 K
  · cases h; exact prim246 K
  · cases h; exact prim421 K
  · cases h; exact prim363 K
  · cases h; exact prim433 K
  · cases h; exact prim43 K
  · cases h; exact prim335 K
  · cases h; exact prim222 K
  · cases h; exact prim42 K hK
  · cases h; exact prim146 K hK
  · cases h; exact prim76 K hK
  · cases h; exact prim332 K hK
  · cases h

/-- what calls do -/
noncomputable def callT : CallF := callN envF primT 200
theorem callT_ok (f : Nat) : CallOk Tryz.prog f (callT f) := callN_ok envOk ktOk nmOk follows_mixed primOk 200 f
theorem soundT (o : Oper) : Sound Tryz.prog callT o (opB envF o) := opB_sound envOk ktOk callT_ok o

end Go.Exe
namespace Go.Exe
open Go Go.Proofs

/-! ### The first statements of code, and the others -/
noncomputable def preC : Nat → Code → Code
  | 0, _ => .skip
  | k + 1, c => match c with
    | .seq x y => .seq x (preC k y)
    | c => c
noncomputable def postC : Nat → Code → Code
  | 0, c => c
  | k + 1, c => match c with
    | .seq _ y => postC k y
    | c => .seq c c

section
variable {P : Program} {K : CallF} {E : Env} {n : Nat}

theorem split_ok (hE : EnvOk P E) (hS : ∀ o : Oper, Sound P K o (opB E o)) (hm : P.follows .mixedOrders = true) (hn5 : n ≤ 512) : ∀ (k : Nat) (c : Code), (∀ u ∈ dsts (preC k c), u < n) →
    (∀ m, m < k → ∃ x y, postC m c = .seq x y) →
    ∀ (tm : Tm) (s : ST) (tm' : Tm) (s' : ST), (codeB E (preC k c)).run K tm s = .ok .normal tm' s' → ∀ (C : Ctx) (ρ : Ren) (a : Act) (w : World), TmR ρ n tm a → Ok C ρ s w → s.lo ≤ s.next →
    ∀ Q : Exit → Act → World → Prop, (∀ ρ' a' w', Ext s s' ρ ρ' → TmR ρ' n tm' a' → a'.defers = a.defers → FrC (preC k c) a a' → Ok C ρ' s' w' → (postC k c).wp P Q a' w') → c.wp P Q a w
  | 0, c, _, _ => by
    intro tm s tm' s' hrun C ρ a w htm hok hlo Q hQ
    cases hrun
    exact hQ ρ a w (Ext.refl _ _) htm rfl (FrC.refl _ _) hok
  | k + 1, c, hd, hsp => by
    intro tm s tm' s' hrun C ρ a w htm hok hlo Q hQ
    obtain ⟨x, y, hc⟩ := hsp 0 (Nat.zero_lt_succ _)
    have hc : c = .seq x y := hc
    subst hc
    have hrun : (codeB E (.seq x (preC k y))).run K tm s = .ok .normal tm' s' := hrun
    rw [codeB_seq] at hrun
    rcases then_ok hrun with ⟨tm1, s1, h1, h2⟩ | ⟨hn, _⟩
    · have hd' : ∀ u ∈ dsts (.seq x (preC k y)), u < n := hd
      refine wp_seq (code_ok hE hS hm hn5 x (fun u hu => hd' u (by simp [dsts, hu])) tm s _ tm1 s1 h1 C ρ a w htm hok hlo _ fun ρ1 a1 w1 e1 t1 d1 f1 o1 => ?_)
      refine split_ok hE hS hm hn5 k y (fun u hu => hd' u (by simp [dsts, hu])) (fun m hm => hsp (m + 1) (Nat.succ_lt_succ hm)) tm1 s1 tm' s' h2 C ρ1 a1 w1 t1 o1 (lon_ext e1 hlo) Q fun ρ2 a2 w2 e2 t2 d2 f2 o2 => ?_
      refine hQ ρ2 a2 w2 (e1.trans e2) t2 (d2.trans d1) (fun u hu => ?_) o2
      have hu : u ∉ dsts (.seq x (preC k y)) := hu
      rw [f2 u (fun hh => hu (by simp [dsts, hh])), f1 u (fun hh => hu (by simp [dsts, hh]))]
    · exact absurd rfl hn
end

/-! ### What is known of a world, but that it goes on -/
/-- a world from which a run begins: nothing has a name -/
def Ctx.at (C : Ctx) (w : World) (h : ∀ b o, C.F b = some o → w.heap[b]? = some o) : Ctx := ⟨w, fun b => w.heap[b]?, fun _ => none, by
  obtain ⟨a, t, fr, hF, h2⟩ := C.tab
  exact ⟨a, t, fr, h 3 _ hF, h2⟩⟩
theorem Ok.start (C : Ctx) (w : World) (h : ∀ b o, C.F b = some o → w.heap[b]? = some o) {s : ST} (hs : s.next ≤ 32768) : Ok (C.at w h) (fun _ => none) s w :=
  ⟨rfl, rfl, rfl, fun _ _ h => (by cases h), fun _ _ _ _ h => (by cases h), fun b o hb => ⟨hb, fun _ _ h => (by cases h)⟩, fun _ _ h => (by cases h), hs, fun _ _ _ h => (by cases h)⟩
theorem Ok.go {C : Ctx} {ρ : Ren} {s : ST} {w : World} (hok : Ok C ρ s w) {h : ∀ b o, C.F b = some o → w.heap[b]? = some o} {ρ' : Ren} {s' : ST} {w' : World} (k : Ok (C.at w h) ρ' s' w') : Ok C ρ s w' := by
  have keep : ∀ b o, w.heap[b]? = some o → w'.heap[b]? = some o := fun b o hb => (k.far b o hb).1
  refine ⟨k.os.trans hok.os, k.tape.trans hok.tape, k.output.trans hok.output, fun j p hp hl => ?_, hok.inj, fun b o hF => ⟨keep _ _ (hok.far b o hF).1, (hok.far b o hF).2⟩, hok.dom, hok.bound, fun j p o hp hl hC => keep _ _ (hok.itr j p o hp hl hC)⟩
  obtain ⟨o, ho, hr⟩ := hok.obj j p hp hl
  exact ⟨o, keep _ _ ho, hr⟩

/-! ### Temporaries of which some are known -/
noncomputable def mkTm : List (Nat × SV) → Tm
  | [] => Tm.none
  | p :: l => (putB p.1).f p.2 (mkTm l)
theorem getB_none {t : Nat} (h : t < 512) : (getB t).f Tm.none = .bad := by
  rw [getB_eq _ h]
  unfold Tm.none
  rw [N8.sel_all, N8.sel_all, N8.sel_all]
theorem mkTm_rel {ρ : Ren} {a : Act} : ∀ {l : List (Nat × SV)}, (∀ p ∈ l, p.1 < 512 ∧ VR ρ p.2 (a.tmps.getD p.1 undef)) → ∀ t, t < 512 → VR ρ ((getB t).f (mkTm l)) (a.tmps.getD t undef)
  | [], _, t, ht => by
    rw [show mkTm [] = Tm.none from rfl, getB_none ht]
    simp [VR]
  | p :: l, h, t, ht => by
    show VR ρ ((getB t).f ((putB p.1).f p.2 (mkTm l))) _
    have hp := h p (by simp)
    by_cases e : t = p.1
    · subst e
      rw [get_put_same _ _ ht]
      exact hp.2
    · rw [get_put_ne _ _ hp.1 ht e]
      exact mkTm_rel (fun q hq => h q (by simp [hq])) t ht

/-- it is so many statements long -/
noncomputable def longC : Nat → Code → Bool
  | 0, _ => true
  | k + 1, c => match c with
    | .seq _ y => longC k y
    | _ => false
theorem longC_ok : ∀ {k : Nat} {c : Code}, longC k c = true → ∀ m, m < k → ∃ x y, postC m c = .seq x y
  | k + 1, c, h, m, hm => by
    cases c with
    | seq x y =>
      cases m with
      | zero => exact ⟨x, y, rfl⟩
      | succ m => exact longC_ok (k := k) (c := y) h m (Nat.lt_of_succ_lt_succ hm)
    | _ => cases h

/-- a piece of which nothing is kept but what its temporaries are -/
theorem quiet_ok {n k : Nat} {c : Code} (hl : longC k c = true) (hd : allLt n (dsts (preC k c)) = true) (hn5 : n ≤ 512) {l : List (Nat × SV)} {tm' : Tm} {s' : ST} (hrun : (codeB envF (preC k c)).run callT (mkTm l) st0 = .ok .normal tm' s')
    {C : Ctx} {ρ : Ren} {s : ST} {a : Act} {w : World} (ha : a.tmps.size = n) (hok : Ok C ρ s w) (hk : ∀ p ∈ l, p.1 < 512 ∧ VR (fun _ => none) p.2 (a.tmps.getD p.1 undef))
    {Q : Exit → Act → World → Prop} (hQ : ∀ a' w' ρ', Ok C ρ s w' → TmR ρ' n tm' a' → a'.defers = a.defers → (∀ u, u ∉ dsts (preC k c) → a'.tmps.getD u undef = a.tmps.getD u undef) → (postC k c).wp Tryz.prog Q a' w') : c.wp Tryz.prog Q a w := by
  have hF : ∀ b o, C.F b = some o → w.heap[b]? = some o := fun b o hb => (hok.far b o hb).1
  refine split_ok envOk soundT follows_mixed hn5 k c (allLt_ok hd) (longC_ok hl) _ _ _ _ hrun (C.at w hF) (fun _ => none) a w ⟨ha, hn5, mkTm_rel hk⟩ (Ok.start C w hF (by show (100 : Nat) ≤ 32768; decide)) (by show (0 : Nat) ≤ 100; decide) Q fun ρ' a' w' x1 x2 x3 x4 x5 => ?_
  exact hQ a' w' ρ' (hok.go x5) x2 x3 x4

/-- a piece from which a new run begins -/
theorem fresh_ok {n k : Nat} {c : Code} (hl : longC k c = true) (hd : allLt n (dsts (preC k c)) = true) (hn5 : n ≤ 512) {l : List (Nat × SV)} {tm' : Tm} {s' : ST} (hrun : (codeB envF (preC k c)).run callT (mkTm l) st0 = .ok .normal tm' s')
    {C : Ctx} {a : Act} {w : World} (ha : a.tmps.size = n) (hF : ∀ b o, C.F b = some o → w.heap[b]? = some o) (hk : ∀ p ∈ l, p.1 < 512 ∧ VR (fun _ => none) p.2 (a.tmps.getD p.1 undef))
    {Q : Exit → Act → World → Prop} (hQ : ∀ a' w' ρ', Ok (C.at w hF) ρ' s' w' → TmR ρ' n tm' a' → s'.lo ≤ s'.next → a'.defers = a.defers → (∀ u, u ∉ dsts (preC k c) → a'.tmps.getD u undef = a.tmps.getD u undef) → (postC k c).wp Tryz.prog Q a' w') : c.wp Tryz.prog Q a w := by
  refine split_ok envOk soundT follows_mixed hn5 k c (allLt_ok hd) (longC_ok hl) _ _ _ _ hrun (C.at w hF) (fun _ => none) a w ⟨ha, hn5, mkTm_rel hk⟩ (Ok.start C w hF (by show (100 : Nat) ≤ 32768; decide)) (by show (0 : Nat) ≤ 100; decide) Q fun ρ' a' w' x1 x2 x3 x4 x5 => ?_
  exact hQ a' w' ρ' x5 x2 (lon_ext x1 (by show (0 : Nat) ≤ 100; decide)) x3 x4

/-! ### What is asked of the kernel -/
noncomputable def allN (f : Nat → Bool) : Nat → Bool
  | 0 => true
  | k + 1 => match f k with
    | true => allN f k
    | false => false
theorem allN_ok {f : Nat → Bool} : ∀ {n : Nat}, allN f n = true → ∀ k, k < n → f k = true
  | n + 1, h, k, hk => by
    unfold allN at h
    split at h
    · rename_i hf
      by_cases e : k = n
      · subst e; exact hf
      · exact allN_ok h k (by omega)
    · cases h
noncomputable def isTrueS (x : SV) : Bool := match x.asBool with
  | some b => b
  | none => false
theorem isTrueS_ok {x : SV} (h : isTrueS x = true) : x = .bool true := by
  unfold isTrueS at h
  split at h
  · rename_i b hb
    rw [asBool_iff.1 hb, h]
  · cases h
/-- code that ends as it should, and leaves an int where it should -/
noncomputable def leaves (c : Code) (l : List (Nat × SV)) (d : Nat) (v : SV) : Bool := match (codeB envF c).run callT (mkTm l) st0 with
  | .ok .normal tm _ => same ((getB d).f tm) v
  | _ => false
theorem leaves_ok {c : Code} {l : List (Nat × SV)} {d : Nat} {v : SV} (h : leaves c l d v = true) : ∃ tm s, (codeB envF c).run callT (mkTm l) st0 = .ok .normal tm s ∧ (getB d).f tm = v := by
  unfold leaves at h
  split at h
  · rename_i tm s hr
    exact ⟨tm, s, hr, same_eq _ _ h⟩
  · cases h
noncomputable def ends (c : Code) (l : List (Nat × SV)) : Bool := match (codeB envF c).run callT (mkTm l) st0 with
  | .ok .normal _ _ => true
  | _ => false
theorem ends_ok {c : Code} {l : List (Nat × SV)} (h : ends c l = true) : ∃ tm s, (codeB envF c).run callT (mkTm l) st0 = .ok .normal tm s := by
  unfold ends at h
  split at h
  · rename_i tm s hr
    exact ⟨tm, s, hr⟩
  · cases h

end Go.Exe
