/- The executor: closures put off; loops over maps that gather. No condition. -/
import Derived.Test.YtcjiieoggpdphaaGreatDoorExC
import Derived.Defers
namespace Go.Exe
open Go

/-- a region that puts a call of a closure off: the making of the closure, and where it lies -/
noncomputable def deferOf : Code → Option (Oper × Nat)
  | .region _ ops false => match ops.toList with
    | [o, q] => match o.guard, q.guard with
      | none, none => match o.dst, q.dst, q.op with
        | some d, none, .defer c => match c.callee, c.args.toList with
          | .value (.tmp d'), [] => match Nat.beq d d' && Nat.blt d 512 with
            | true => some (o, d)
            | false => none
          | _, _ => none
        | _, _, _ => none
      | _, _ => none
    | _ => none
  | _ => none

inductive RD where
  | ok (g : Option Nat) (e : Ex) (tm : Tm) (s : ST)
  | no

noncomputable def RD.of (g : Option Nat) (r : R) : RD := R.rec (motive := fun _ => RD) (fun e tm s => .ok g e tm s) .no r

structure DCBox where
  run : CallF → Tm → ST → RD

noncomputable def spineB (E : Env) : Code → DCBox
  | .seq x y => match deferOf x with
    | some (o, d) => match stepB (opB E o) (evs o.op.operands.toList) (putO o.dst) ⟨fun _ tm s => some (tm, s)⟩, getB d, codeB E y with
      | ⟨b⟩, ⟨g⟩, ⟨r⟩ => ⟨fun K tm s => match b K tm s with
        | some (tm, s) => match (g tm).asFn with
          | some (.func f, [], [_]) => RD.of (some f) (r K tm s)
          | _ => .no
        | none => .no⟩
    | none => match codeB E x, spineB E y with
      | ⟨a⟩, ⟨b⟩ => ⟨fun K tm s => match a K tm s with
        | .ok e tm s => match e with
          | .normal => b K tm s
          | .exit n => .ok none (.exit n) tm s
          | .ret => .ok none .ret tm s
        | .no => .no⟩
  | _ => ⟨fun _ _ _ => .no⟩

noncomputable def idleOf (idle : Nat) : Option Nat → Bool
  | none => true
  | some g => Nat.beq g idle

/-- a function that puts off calls of one closure alone -/
noncomputable def funcD (E : Env) (idle f : Nat) : FBox :=
  match E.fs f with
  | some fn => match fn.body with
    | some c => match Nat.ble fn.ntmps 512 && (allLt fn.ntmps (dsts c) && rvLt fn.results.toList) with
      | true => match spineB E c, resB E fn.results.toList with
        | ⟨b⟩, ⟨r⟩ => match fn.ntmps with
          | n => ⟨fun K args s => match Nat.ble (lenV args) n && Nat.ble s.lo s.next with
            | true => match b K (putArgs args 0 Tm.undef) s with
              | .ok g e tm s => match e with
                | .exit _ => none
                | _ => match idleOf idle g with
                  | true => match r tm s with
                    | some r => some (oneS r, s)
                    | none => none
                  | false => none
              | .no => none
            | false => none⟩
      | false => ⟨fun _ _ _ => none⟩
    | none => ⟨fun _ _ _ => none⟩
  | none => ⟨fun _ _ _ => none⟩

section
variable {P : Program} {K : CallF} {E : Env} {n : Nat}

theorem deferOf_ok {x : Code} {o : Oper} {d : Nat} (h : deferOf x = some (o, d)) : ∃ id ops q c, x = .region id ops false ∧ ops.toList = [o, q] ∧ o.guard = none ∧ q.guard = none ∧ o.dst = some d ∧ q.dst = none ∧ q.op = .defer c ∧ c.callee = .value (.tmp d) ∧ c.args.toList = [] ∧ d < 512 := by
  unfold deferOf at h
  split at h
  · rename_i id ops
    split at h
    · rename_i o' q hops
      split at h
      · rename_i h1 h2
        split at h
        · rename_i d1 c h3 h4 h5
          split at h
          · rename_i d' h6 h7
            split at h
            · rename_i h8
              cases h
              simp only [Bool.and_eq_true] at h8
              have := Nat.eq_of_beq_eq_true h8.1
              subst this
              exact ⟨id, ops, q, c, rfl, hops, h1, h2, h3, h4, h5, h6, h7, by simpa [Nat.blt_eq] using h8.2⟩
            · cases h
          · cases h
        · cases h
      · cases h
    · cases h
  · cases h

/-- code that may have put a call off is followed rightly -/
def SpineOk (P : Program) (n : Nat) (c : Code) (run : Tm → ST → RD) : Prop :=
  ∀ (tm : Tm) (s : ST) (g : Option Nat) (e : Ex) (tm' : Tm) (s' : ST), run tm s = .ok g e tm' s' → ∀ (C : Ctx) (ρ : Ren) (a : Act) (w : World), TmR ρ n tm a → Ok C ρ s w → s.lo ≤ s.next → a.defers = [] →
    ∀ Q : Exit → Act → World → Prop, (∀ ρ' a' w', Ext s s' ρ ρ' → TmR ρ' n tm' a' → (match g with | none => a'.defers = [] | some f => ∃ x : Value, a'.defers = [⟨.fn (.func f) #[x], #[]⟩]) → Ok C ρ' s' w' → Q (exOf e) a' w') → c.wp P Q a w

theorem rdOf_ok {g g' : Option Nat} {r : R} {e : Ex} {tm : Tm} {s : ST} (h : RD.of g r = .ok g' e tm s) : g' = g ∧ r = .ok e tm s := by
  cases r with
  | no => cases h
  | ok e1 tm1 s1 => cases h; exact ⟨rfl, rfl⟩

theorem spineB_seq (x y : Code) (tm : Tm) (s : ST) : (spineB E (.seq x y)).run K tm s = match deferOf x with
    | some (o, d) => (match (stepB (opB E o) (evs o.op.operands.toList) (putO o.dst) ⟨fun _ tm s => some (tm, s)⟩).run K tm s with
        | some (tm, s) => match ((getB d).f tm).asFn with
          | some (.func f, [], [_]) => RD.of (some f) ((codeB E y).run K tm s)
          | _ => .no
        | none => .no)
    | none => match (codeB E x).run K tm s with
        | .ok e tm s => match e with
          | .normal => (spineB E y).run K tm s
          | .exit n => .ok none (.exit n) tm s
          | .ret => .ok none .ret tm s
        | .no => .no := by
  rw [spineB.eq_def]
  dsimp only
  cases deferOf x with
  | none =>
    dsimp only
  | some p =>
    obtain ⟨o, d⟩ := p
    dsimp only

theorem spine_ok (hE : EnvOk P E) (hS : ∀ o : Oper, Sound P K o (opB E o)) (hm : P.follows .mixedOrders = true) (hn5 : n ≤ 512) : ∀ c : Code, (∀ u ∈ dsts c, u < n) → SpineOk P n c ((spineB E c).run K)
  | .seq x y, hd => by
    intro tm s g e tm' s' hrun C ρ a w htm hok hlo hda Q hQ
    have hy : ∀ u ∈ dsts y, u < n := fun u hu => hd u (by simp [dsts, hu])
    rw [spineB_seq] at hrun
    split at hrun
    · rename_i o d hdo
      obtain ⟨id, ops, q, c, rfl, hops, g1, g2, d1, d2, q1, c1, c2, hd5⟩ := deferOf_ok hdo
      have hops' : ops = #[o, q] := by apply Array.ext'; exact hops
      subst hops'
      rw [stepB_run] at hrun
      split at hrun
      · rename_i tm1 s1 hstep
        split at hstep
        · rename_i v s1' happ
          cases hstep
          have hdn : d < n := hd d (by simp [dsts, dstsOps, d1])
          split at hrun
          · rename_i f cap1 hf
            obtain ⟨eg, hrun2⟩ := rdOf_ok hrun
            subst eg
            clear hrun
            refine wp_seq ?_
            refine wp_region ?_
            have hw1 : Region.wanted o (yielded #[o, q] a.tmps) = true := by simp [Region.wanted, g1]
            show (if Region.wanted o (yielded #[o, q] a.tmps) then _ else _)
            rw [if_pos hw1]
            refine .inl ?_
            refine hS o C ρ s _ w a _ v (vals_ok htm _) hok happ _ _ fun ρ' v' w' he hv hok' => ?_
            have htm1 : TmR ρ' n ((putO o.dst).f v tm) (a.put o.dst v') := (htm.mono he.le).putO (fun t ht => by rw [d1] at ht; cases ht; exact hdn) hv
            have hr := htm1.rel d hd5
            rw [asFn_iff.1 hf, VR.fn_iff] at hr
            obtain ⟨fs, cs, ef, rf, rc⟩ := hr
            have hfs := VRL.nil_iff.1 rf
            subst hfs
            obtain ⟨x, e2, _⟩ := VRL.one rc
            subst e2
            have hw2 : Region.wanted q (yielded #[o, q] (a.put o.dst v').tmps) = true := by simp [Region.wanted, g2]
            show (if Region.wanted q (yielded #[o, q] (a.put o.dst v').tmps) then _ else _)
            rw [if_pos hw2]
            refine .inl ?_
            have ev : (a.put o.dst v').eval (.tmp d) = .func (.func f) ⟨[]⟩ ⟨[x]⟩ := ef
            have hargs : c.args = #[] := by apply Array.ext'; exact c2
            have hexec : execOp (a.put o.dst v').eval q = pure (.defer ⟨.fn (.func f) #[x], #[]⟩) := by
              simp only [execOp, q1, resolve, c1, ev, Deferred.ofValue, hargs]
              simp
            show q.wp P (a.put o.dst v') w' _ _
            unfold Oper.wp
            rw [hexec]
            show Exit.then _ Q .normal (Act.put { (a.put o.dst v') with defers := ⟨.fn (.func f) #[x], #[]⟩ :: (a.put o.dst v').defers } q.dst undef) w'
            rw [d2]
            have hlo' : s1.lo ≤ s1.next := by
              have h1 := he.lo
              have h2 := he.next
              omega
            refine (code_ok hE hS hm hn5 y hy) _ _ _ _ _ hrun2 C ρ' { (a.put o.dst v') with defers := ⟨.fn (.func f) #[x], #[]⟩ :: (a.put o.dst v').defers } w' ⟨htm1.size, htm1.small, htm1.rel⟩ hok' hlo' Q fun ρ2 a2 w2 x1 x2 x3 x4 x5 => ?_
            refine hQ ρ2 a2 w2 (he.trans x1) x2 ⟨x, ?_⟩ x5
            rw [x3]
            show _ :: (a.put o.dst v').defers = _
            rw [defers_put, hda]
          · cases hrun
        · cases hstep
      · cases hrun
    · have h1 := code_ok (K := K) hE hS hm hn5 x fun u hu => hd u (by simp [dsts, hu])
      have h2 := spine_ok hE hS hm hn5 y hy
      split at hrun
      · rename_i e1 tm1 s1 hx
        refine wp_seq (h1 tm s e1 tm1 s1 hx C ρ a w htm hok hlo _ fun ρ' a' w' x1 x2 x3 x4 x5 => ?_)
        split at hrun
        · have hlo' : s1.lo ≤ s1.next := by
            have h1 := x1.lo
            have h2 := x1.next
            omega
          exact h2 _ _ _ _ _ _ hrun C ρ' a' w' x2 x5 hlo' (x3.trans hda) Q fun ρ2 a2 w2 y1 y2 y3 y4 => hQ ρ2 a2 w2 (x1.trans y1) y2 y3 y4
        · cases hrun
          exact hQ ρ' a' w' x1 x2 (x3.trans hda) x5
        · cases hrun
          exact hQ ρ' a' w' x1 x2 (x3.trans hda) x5
      · cases hrun
  | .skip, _ | .region .., _ | .cond .., _ | .block .., _ | .loop .., _ | .exit .., _ | .ret, _ | .scope .., _ | .label .., _ | .rangeFunc .., _ | .goto .., _ | .refuse .., _ => by
    intro tm s g e tm' s' hrun
    cases hrun

/-- a closure that does nothing when it is called at a return -/
def Idle (P : Program) (g : Nat) : Prop := ∀ (x : Value) (w : World), CallsD P g #[x] .returning w fun e u' w' => e = .returned (.tuple #[]) ∧ u' = .returning ∧ w' = w

theorem funcD_ok (hE : EnvOk P E) (hN : NmOk E) (hS : ∀ o : Oper, Sound P K o (opB E o)) (hm : P.follows .mixedOrders = true) {g : Nat} (hI : Idle P g) {gn : Func} {gc : Code} (hg : E.fs g = some gn) (hgb : gn.body = some gc) (f : Nat) : CallOk P f ((funcD E g f).run K) := by
  intro args s v s' hrun C ρ as w hargs hok
  cases hf : E.fs f with
  | none =>
    have : (funcD E g f).run K args s = none := by unfold funcD; rw [hf]
    rw [this] at hrun; cases hrun
  | some fn =>
  cases hb : fn.body with
  | none =>
    have : (funcD E g f).run K args s = none := by unfold funcD; rw [hf]; dsimp only; rw [hb]
    rw [this] at hrun; cases hrun
  | some c =>
  have hrun' : (match Nat.ble fn.ntmps 512 && (allLt fn.ntmps (dsts c) && rvLt fn.results.toList) with
    | true => (match Nat.ble (lenV args) fn.ntmps && Nat.ble s.lo s.next with
      | true => match (spineB E c).run K (putArgs args 0 Tm.undef) s with
        | .ok g' e tm s => match e with
          | .exit _ => none
          | _ => match idleOf g g' with
            | true => match (resB E fn.results.toList).run tm s with
              | some r => some (oneS r, s)
              | none => none
            | false => none
        | .no => none
      | false => none)
    | false => none) = some (v, s') := by
    unfold funcD at hrun
    rw [hf] at hrun
    dsimp only at hrun
    rw [hb] at hrun
    dsimp only at hrun
    cases hc : Nat.ble fn.ntmps 512 && (allLt fn.ntmps (dsts c) && rvLt fn.results.toList) with
    | false => rw [hc] at hrun; cases hrun
    | true =>
      rw [hc] at hrun
      dsimp only at hrun ⊢
      generalize spineB E c = cb at hrun ⊢
      generalize resB E fn.results.toList = rb at hrun ⊢
      obtain ⟨cb⟩ := cb
      obtain ⟨rb⟩ := rb
      exact hrun
  have hPf := hE.fs f fn hf
  have hPg := hE.fs g gn hg
  have hcallg : ∀ (xs : Array Value) (w : World), (callFunc g xs).run P w = .ok (.enter g xs) w := by
    intro xs w
    have hnm := hN g gn hg
    simp only [callFunc]
    rw [Sem.run_bind]
    show (Sem.run P (match P.funcs[g]? with | none => _ | some fn => _) w) = _
    rw [hPg]
    dsimp only
    rw [hnm]
    simp [hgb]
  refine .inr ⟨?_, ?_⟩
  · have hnm := hN f fn hf
    simp only [callFunc]
    rw [Sem.run_bind]
    show (Sem.run P (match P.funcs[f]? with | none => _ | some fn => _) w) = _
    rw [hPf]
    dsimp only
    rw [hnm]
    simp [hb]
  · refine calls_of_wp_defers hPf hb ?_
    split at hrun'
    · rename_i hc
      simp only [Bool.and_eq_true] at hc
      have hn5 := Nat.le_of_ble_eq_true hc.1
      have hd := allLt_ok hc.2.1
      have hrv := rvs_ok hc.2.2
      split at hrun'
      · rename_i hl
        simp only [Bool.and_eq_true] at hl
        have hl1 := Nat.le_of_ble_eq_true hl.1
        rw [lenV_eq] at hl1
        have hl2 := Nat.le_of_ble_eq_true hl.2
        split at hrun'
        · rename_i g' e tm s1 hcode
          have main : ∀ (r : List SV), (resB E fn.results.toList).run tm s1 = some r → v = oneS r → s' = s1 → idleOf g g' = true → ∀ ρ' a' w', Ext s s1 ρ ρ' → TmR ρ' fn.ntmps tm a' →
              (match g' with | none => a'.defers = [] | some f => ∃ x : Value, a'.defers = [⟨.fn (.func f) #[x], #[]⟩]) → Ok C ρ' s1 w' →
              Leaves P fn a'.tmps (fun r w' => ∃ v' ρ', r = .returned v' ∧ Ext s s' ρ ρ' ∧ VR ρ' v v' ∧ Ok C ρ' s' w') a'.defers .returning w' := by
            rintro r hr rfl rfl hgg ρ' a' w' x1 x2 x3 x5
            obtain ⟨vs, h1, h2⟩ := resB_ok (P := P) hE x2 x5 hrv hr
            have h3 : (results fn a'.tmps).run P w' = .ok (if h : (⟨vs⟩ : Array Value).size = 1 then (⟨vs⟩ : Array Value)[0] else .tuple ⟨vs⟩) w' := by
              show (do let vs ← fn.results.mapM (rvSem a'.tmps); pure (if h : vs.size = 1 then vs[0] else .tuple vs)).run P w' = _
              rw [Sem.run_bind, Array.mapM_eq_mapM_toList, Sem.run_map, h1]
              rfl
            have fin : Leaves P fn a'.tmps (fun r' w' => ∃ v' ρ', r' = .returned v' ∧ Ext s s' ρ ρ' ∧ VR ρ' (oneS r) v' ∧ Ok C ρ' s' w') [] .returning w' := by
              refine ⟨_, h3, _, ρ', rfl, x1, ?_, x5⟩
              match r, vs, h2 with
              | [], vs, h2 =>
                rw [VRL.nil_iff.1 h2]
                exact VR.tup_iff.2 ⟨[], rfl, .nil⟩
              | [x], vs, h2 =>
                obtain ⟨u, rfl, hu⟩ := h2.one
                exact hu
              | x :: y :: r, vs, h2 =>
                have hl := h2.length
                rw [dif_neg (by simp at hl ⊢; omega)]
                exact VR.tup_iff.2 ⟨vs, rfl, h2⟩
            cases g' with
            | none =>
              rw [x3]
              exact fin
            | some g1 =>
              obtain ⟨x, x3⟩ := x3
              have hg1 : g1 = g := Nat.eq_of_beq_eq_true hgg
              subst hg1
              rw [x3]
              refine leaves_cons (f := g1) (args := #[x]) (by simp) (by simp only [invoke]; exact hcallg _ _) ?_
              refine (hI x w').mono ?_
              rintro e u' w'' ⟨rfl, rfl, rfl⟩
              exact fin
          refine spine_ok hE hS hm hn5 c hd _ _ _ _ _ _ hcode C ρ _ w (tmR_args hargs hl1 hn5) hok hl2 rfl _ fun ρ' a' w' x1 x2 x3 x5 => ?_
          cases e with
          | exit k => cases hrun'
          | normal =>
            dsimp only at hrun'
            split at hrun'
            · rename_i hgg
              split at hrun'
              · rename_i r hr
                cases hrun'
                exact main r hr rfl rfl hgg ρ' a' w' x1 x2 x3 x5
              · cases hrun'
            · cases hrun'
          | ret =>
            dsimp only at hrun'
            split at hrun'
            · rename_i hgg
              split at hrun'
              · rename_i r hr
                cases hrun'
                exact main r hr rfl rfl hgg ρ' a' w' x1 x2 x3 x5
              · cases hrun'
            · cases hrun'
        · cases hrun'
      · cases hrun'
    · cases hrun'

end
end Go.Exe
namespace Go.Exe
open Go

noncomputable def allE (f : (SV × SV × Nat) → Bool) : List (SV × SV × Nat) → Bool
  | [] => true
  | e :: l => match f e with
    | true => allE f l
    | false => false
noncomputable def sameO2 (x y : SO) : Bool :=
  match x with
  | .dead => match y with
    | .dead => true
    | _ => false
  | _ => sameO x y
/-- so far as the second has them -/
noncomputable def rangeSub (h h' : H3) : Nat → Nat → Bool
  | 0, _ => true
  | k + 1, a => match (match h'.get a with
      | .dead => true
      | x => sameO2 (h.get a) x) with
    | true => rangeSub h h' k (Nat.succ a)
    | false => false
/-- what two have in common -/
noncomputable def meet (x y : SO) : SO :=
  match sameO2 x y with
  | true => x
  | false => .dead
noncomputable def meetRange (src src' : H3) : Nat → Nat → H3 → H3
  | 0, _, h => h
  | k + 1, a, h => meetRange src src' k (Nat.succ a) (h.set a (meet (src.get a) (src'.get a)))
noncomputable def putL (tmC : Tm) : List Nat → Tm → Tm
  | [], tm => tm
  | d :: l, tm => putL tmC l ((putB d).f ((getB d).f tmC) tm)
noncomputable def sameKs (a b : Tm) : List Nat → Bool
  | [] => true
  | d :: l => match same ((getB d).f a) ((getB d).f b) with
    | true => sameKs a b l
    | false => false

/-- whichever entry each round takes: each way ends as it should -/
noncomputable def forkN (rest : CallF → Tm → ST → R) (K : CallF) (g : Tm → SV) (p q : SV → Tm → Tm) (fin : Nat → Tm → ST → Bool) (j m clk : Nat) (es : List (SV × SV × Nat)) : Nat → List Nat → Tm → ST → Bool
  | 0, _, _, _ => false
  | k + 1, seen, tm, s => match ptrIs j (g tm) with
    | false => false
    | true => match leftOf seen es with
      | [] => match rest K (q (.bool false) (p (.tup [.bool false]) tm)) s with
        | .ok (.exit n) tm s => fin n tm s
        | _ => false
      | e :: l => allE (fun e => match rest K (q (.bool true) (p (.tup [.bool true, e.1, e.2.1]) tm)) ⟨s.heap.set j (.mit (some m) clk (seen ++ [e.2.2]) clk), s.next, s.lo, s.it⟩ with
        | .ok .normal tm s => forkN rest K g p q fin j m clk es k (seen ++ [e.2.2]) tm s
        | _ => false) (e :: l)
/-- the first way -/
noncomputable def firstN (rest : CallF → Tm → ST → R) (K : CallF) (p q : SV → Tm → Tm) (j m clk : Nat) (es : List (SV × SV × Nat)) : Nat → List Nat → Tm → ST → R
  | 0, _, _, _ => .no
  | k + 1, seen, tm, s => match leftOf seen es with
    | [] => rest K (q (.bool false) (p (.tup [.bool false]) tm)) s
    | e :: _ => match rest K (q (.bool true) (p (.tup [.bool true, e.1, e.2.1]) tm)) ⟨s.heap.set j (.mit (some m) clk (seen ++ [e.2.2]) clk), s.next, s.lo, s.it⟩ with
      | .ok .normal tm s => firstN rest K p q j m clk es k (seen ++ [e.2.2]) tm s
      | _ => .no

noncomputable def slotAt (slot : Option Nat) (tm : Tm) (s : ST) : Nat :=
  match slot with
  | some u => match ((getB u).f tm).asPtr with
    | some p => p.1
    | none => s.next
  | none => s.next
noncomputable def leafOk (after : CallF → Tm → ST → R) (K : CallF) (id : Nat) (ks : List Nat) (T : Tm) (S : ST) (i0 L0 : Nat) (n : Nat) (tm : Tm) (s : ST) : Bool :=
  match Nat.beq n id with
  | true => match after K tm s with
    | .ok .normal tm s => sameKs tm T ks && (Nat.beq s.next S.next && (rangeSub s.heap S.heap (Nat.sub S.next L0) L0 && (Nat.ble L0 i0 || sameO2 (s.heap.get i0) (S.heap.get i0))))
    | _ => false
  | false => false

noncomputable def lenE (es : List (SV × SV × Nat)) : Nat := List.rec (motive := fun _ => Nat) 1 (fun _ _ ih => Nat.succ ih) es
noncomputable def forkB (plain rest after : CallF → Tm → ST → R) (id t d e : Nat) (ds ks : List Nat) (slot : Option Nat) : CallF → Tm → ST → R :=
  match getB t, putB d, putB e with
  | ⟨g⟩, ⟨p⟩, ⟨q⟩ => fun K tm s => match (g tm).asPtr with
    | some (j, 0) => match s.heap.get j with
      | .mit (some m) since [] stepped => match s.mapOf m with
        | some (en :: en' :: es, c) => match slotAt slot tm s with
          | i0 => match Nat.beq c stepped && (Nat.beq since c && (bornLt c (en :: en' :: es) && (!Nat.beq j i0 && (!Nat.beq m i0 && (Nat.ble s.lo i0 || Nat.beq s.it i0))))) with
            | true => match firstN rest K p q j m c (en :: en' :: es) (lenE (en :: en' :: es)) [] tm ⟨s.heap, s.next, s.next, i0⟩, firstN rest K p q j m c (en' :: (es ++ [en])) (lenE (en :: en' :: es)) [] tm ⟨s.heap, s.next, s.next, i0⟩ with
              | .ok _ tm1 s1, .ok _ tm2 s2 => match after K tm1 s1, after K tm2 s2 with
                | .ok _ tmC sC, .ok _ _ sD => match s.put j .dead with
                  | some sd => match putL tmC ks (blank ds tm) with
                    | T => match (⟨(meetRange sC.heap sD.heap (Nat.sub sC.next s.next) s.next sd.heap).set i0 (sC.heap.get i0), sC.next, s.lo, s.it⟩ : ST) with
                      | S => match Nat.ble sC.next 32768 && (Nat.blt i0 32768 && forkN rest K g p q (leafOk after K id ks T S i0 s.next) j m c (en :: en' :: es) (lenE (en :: en' :: es)) [] tm ⟨s.heap, s.next, s.next, i0⟩) with
                        | true => .ok .normal T S
                        | false => .no
                  | none => .no
                | _, _ => .no
              | _, _ => .no
            | false => .no
        | _ => plain K tm s
      | _ => plain K tm s
    | _ => .no

/-! ### Looks -/
theorem allE_ok {f : (SV × SV × Nat) → Bool} : ∀ {l : List (SV × SV × Nat)}, allE f l = true → ∀ e ∈ l, f e = true
  | [], _, e, he => by simp at he
  | x :: l, h, e, he => by
    unfold allE at h
    split at h
    · rename_i hx
      rcases List.mem_cons.1 he with rfl | he
      · exact hx
      · exact allE_ok h e he
    · cases h
theorem leftOf_mem {seen : List Nat} : ∀ {es : List (SV × SV × Nat)} {e : SV × SV × Nat}, e ∈ es → e.2.2 ∉ seen → e ∈ leftOf seen es
  | [], e, he, _ => by simp at he
  | x :: es, e, he, hs => by
    unfold leftOf
    rcases List.mem_cons.1 he with rfl | he
    · have : (seen.any fun b => Nat.beq b e.2.2) = false := by
        rw [List.any_eq_false]
        intro b hb hh
        exact hs (Nat.eq_of_beq_eq_true hh ▸ hb)
      rw [this]
      simp
    · have ih := leftOf_mem he hs
      split
      · exact ih
      · simp [ih]
theorem leftOf_inv {seen : List Nat} : ∀ {es : List (SV × SV × Nat)} {e : SV × SV × Nat}, e ∈ leftOf seen es → e ∈ es ∧ e.2.2 ∉ seen
  | [], e, he => by simp [leftOf] at he
  | x :: es, e, he => by
    unfold leftOf at he
    split at he
    · obtain ⟨h1, h2⟩ := leftOf_inv he
      exact ⟨by simp [h1], h2⟩
    · rename_i hx
      rcases List.mem_cons.1 he with rfl | he
      · refine ⟨by simp, fun hs => ?_⟩
        rw [List.any_eq_false] at hx
        exact hx _ hs (Nat.beq_refl _)
      · obtain ⟨h1, h2⟩ := leftOf_inv he
        exact ⟨by simp [h1], h2⟩
theorem sameO2_eq {x y : SO} (h : sameO2 x y = true) : x = y := by
  unfold sameO2 at h
  split at h
  · split at h
    · rfl
    · cases h
  · exact sameO_eq h
theorem rangeSub_ok {h h' : H3} : ∀ {k a : Nat}, rangeSub h h' k a = true → ∀ i, a ≤ i → i < a + k → (h'.get i).live = true → h'.get i = h.get i
  | 0, a, _, i, h1, h2, _ => by omega
  | k + 1, a, hh, i, h1, h2, hl => by
    unfold rangeSub at hh
    split at hh
    · rename_i hs
      by_cases e : i = a
      · subst e
        split at hs
        · rename_i hd
          rw [hd] at hl; cases hl
        · exact (sameO2_eq hs).symm
      · exact rangeSub_ok hh i (by show a + 1 ≤ i; omega) (by show i < (a + 1) + k; omega) hl
    · cases hh
theorem meetRange_get {src src' : H3} : ∀ {k a : Nat} {h : H3}, a + k ≤ 32768 → ∀ i, i < 32768 → (meetRange src src' k a h).get i = if a ≤ i ∧ i < a + k then meet (src.get i) (src'.get i) else h.get i
  | 0, a, h, _, i, _ => by rw [if_neg (by omega)]; rfl
  | k + 1, a, h, hk, i, hi => by
    show (meetRange src src' k (a + 1) (h.set a (meet (src.get a) (src'.get a)))).get i = _
    rw [meetRange_get (by omega) i hi]
    by_cases h1 : a + 1 ≤ i ∧ i < a + 1 + k
    · rw [if_pos h1, if_pos (by omega)]
    · rw [if_neg h1]
      by_cases h2 : i = a
      · subst h2
        rw [if_pos (by omega), H3.get_set_same _ _ hi]
      · rw [if_neg (by omega), H3.get_set_ne _ _ (by omega) hi h2]
theorem putL_get {tmC : Tm} : ∀ {l : List Nat} {tm : Tm}, (∀ u ∈ l, u < 512) → ∀ t, t < 512 → (getB t).f (putL tmC l tm) = if t ∈ l then (getB t).f tmC else (getB t).f tm
  | [], tm, _, t, _ => by simp [putL]
  | d :: l, tm, hl, t, ht => by
    unfold putL
    rw [putL_get (fun u hu => hl u (by simp [hu])) t ht]
    by_cases h1 : t ∈ l
    · rw [if_pos h1, if_pos (by simp [h1])]
    · rw [if_neg h1]
      by_cases h2 : t = d
      · subst h2
        rw [get_put_same _ _ ht, if_pos (by simp)]
      · rw [get_put_ne _ _ (hl d (by simp)) ht h2, if_neg (by simp [h1, h2])]
theorem sameKs_ok {a b : Tm} : ∀ {l : List Nat}, sameKs a b l = true → ∀ u ∈ l, (getB u).f a = (getB u).f b
  | [], _, u, hu => by simp at hu
  | d :: l, h, u, hu => by
    unfold sameKs at h
    split at h
    · rename_i hs
      rcases List.mem_cons.1 hu with rfl | hu
      · exact same_eq _ _ hs
      · exact sameKs_ok h u hu
    · cases h

/-- what a piece of such a loop leaves as it was: all below the barrier but one block, and the iterator -/
structure ExtF (j : Nat) (s s' : ST) (ρ ρ' : Ren) : Prop where
  le : ρ.le ρ'
  same : ∀ i, i < s.next → ρ' i = ρ i
  next : s.next ≤ s'.next
  lo : s'.lo = s.lo
  it : s'.it = s.it
  keep : ∀ i, i < s.lo → i ≠ s.it → i ≠ j → s'.heap.get i = s.heap.get i

theorem ExtF.refl (j : Nat) (s : ST) (ρ : Ren) : ExtF j s s ρ ρ := ⟨Ren.le_refl _, fun _ _ => rfl, Nat.le_refl _, rfl, rfl, fun _ _ _ _ => rfl⟩
theorem ExtF.trans {j : Nat} {a b c : ST} {ρ σ τ : Ren} (h : ExtF j a b ρ σ) (k : ExtF j b c σ τ) : ExtF j a c ρ τ :=
  ⟨h.le.trans k.le, fun i hi => (k.same i (Nat.lt_of_lt_of_le hi h.next)).trans (h.same i hi), Nat.le_trans h.next k.next, k.lo.trans h.lo, k.it.trans h.it,
    fun i hi h1 h2 => (k.keep i (by rw [h.lo]; exact hi) (by rw [h.it]; exact h1) h2).trans (h.keep i hi h1 h2)⟩
theorem Ext.toF {a b : ST} {ρ σ : Ren} (h : Ext a b ρ σ) (hl : a.lo ≤ a.next) (j : Nat) : ExtF j a b ρ σ :=
  ⟨h.le, h.same, h.next, h.lo, h.it, fun i hi h1 _ => h.keep hl i hi h1⟩

section
variable {P : Program} {K : CallF} {E : Env} {n : Nat}

/-- a step of a range over a map: it is over just where all have come -/
theorem next_left {w : World} {b mb c : Nat} {seen : Array Nat} {arr : Array MapEntry} (hit : w.heap[b]? = some (.mapIter (some mb) c seen c)) (hmap : w.heap[mb]? = some (.map arr c)) (hborn : ∀ m ∈ arr.toList, m.born < c) (ty : Nat) {v : Value} {w' : World}
    (h : (Instr.next (.pointer (some ⟨b, 0, none⟩)) false ty).run P w = .ok v w') (hv : v = .tuple #[.bool false]) : ∀ m ∈ arr.toList, seen.contains m.born = true := by
  have hget : (getObj b).run P w = .ok (.mapIter (some mb) c seen c) w := by simp [getObj, Sem.run, hit]
  have hgetm := get_map (P := P) hmap
  have hhead : ∀ bb : Bool, (bb && !arr.isEmpty && arr.all (fun e => decide (e.born ≥ c))) = false := by
    intro bb
    cases hl : arr.toList with
    | nil =>
      have : arr = #[] := Array.ext' hl
      subst this
      simp
    | cons m ms =>
      have hm := hborn m (by rw [hl]; simp)
      have : arr = ⟨m :: ms⟩ := Array.ext' hl
      subst this
      have hn : ¬ (m.born ≥ c) := by omega
      simp [hn]
  have hfo : (arr.filter fun e => !seen.contains e.born).filter (fun x => decide (x.born < c)) = arr.filter fun e => !seen.contains e.born := by
    apply Array.ext'
    rw [Array.toList_filter, List.filter_eq_self]
    intro m hm
    have : m ∈ arr := (Array.mem_filter.1 (Array.mem_toList_iff.1 hm)).1
    simpa using hborn m (by simpa using this)
  have hfn : (arr.filter fun e => !seen.contains e.born).filter (fun x => decide (x.born ≥ c)) = #[] := by
    apply Array.ext'
    rw [Array.toList_filter]
    show _ = []
    rw [List.filter_eq_nil_iff]
    intro m hm
    have : m ∈ arr := (Array.mem_filter.1 (Array.mem_toList_iff.1 hm)).1
    have := hborn m (by simpa using this)
    simp
    omega
  by_cases hL : (arr.filter fun e => !seen.contains e.born) = #[]
  · intro m hm
    cases hc : seen.contains m.born with
    | true => rfl
    | false =>
      have : m ∈ arr.filter fun e => !seen.contains e.born := Array.mem_filter.2 ⟨by simpa using hm, by rw [hc]; rfl⟩
      rw [hL] at this
      simp at this
  · exfalso
    have hpos : 0 < (arr.filter fun e => !seen.contains e.born).size := by
      rcases Nat.eq_zero_or_pos (arr.filter fun e => !seen.contains e.born).size with h | h
      · exact absurd (Array.eq_empty_of_size_eq_zero h) hL
      · exact h
    generalize hleft : (arr.filter fun e => !seen.contains e.born) = left at *
    obtain ⟨k, w0, hk, hw0, hch⟩ : ∃ k w0, k < left.size ∧ (w0 = w ∨ w0 = w.drew) ∧ (choose (.mapNext left.size)).run P w = .ok k w0 := by
      by_cases hf : left.size ≤ 1
      · exact ⟨0, w, hpos, .inl rfl, by simp [choose, Sem.run, Question.forced, hf]⟩
      · refine ⟨w.tape w.drawn (.mapNext left.size) % left.size, w.drew, Nat.mod_lt _ hpos, .inr rfl, ?_⟩
        simp [choose, Sem.run, Question.forced, hf, Question.cut]
    have hset : (setObj b (.mapIter (some mb) c (seen.push left[k].born) c)).run P w0 = .ok () { w0 with heap := w.heap.setIfInBounds b (.mapIter (some mb) c (seen.push left[k].born) c) } := by
      have hset1 : ∀ w1 : World, w1.heap = w.heap → (setObj b (.mapIter (some mb) c (seen.push left[k].born) c)).run P w1 = .ok () { w1 with heap := w.heap.setIfInBounds b (.mapIter (some mb) c (seen.push left[k].born) c) } := by
        intro w1 hw1
        have hit1 : w1.heap[b]? = some (.mapIter (some mb) c seen c) := by rw [hw1]; exact hit
        simp [setObj, Sem.run, hw1, hit]
      rcases hw0 with rfl | rfl
      · exact hset1 _ rfl
      · exact hset1 _ rfl
    have hemp : left.isEmpty = false := by
      cases h : left.isEmpty with
      | false => rfl
      | true => rw [Array.isEmpty_iff] at h; exact absurd h hL
    unfold Instr.next at h
    simp only [Sem.run_bind, hget, Result.andThen_ok, hgetm, hhead, Bool.false_eq_true, if_false, hleft, hfo, hfn] at h
    simp only [hemp, Bool.false_eq_true, if_false, Array.append_empty, Array.empty_append, Array.size_map, hch, Result.andThen_ok] at h
    simp [hk, hset] at h
    obtain ⟨h1, _⟩ := h
    rw [hv] at h1
    simp at h1

theorem fork_ok {x r0 : Code} {rest : CallF → Tm → ST → R} {t d e : Nat} (hr : CodeOk P n r0 (rest K)) (hit : iterOf x = some (t, d, e, r0)) (hd : ∀ u ∈ dsts x, u < n) {fin : Nat → Tm → ST → Bool} {j m clk : Nat} {es : List (SV × SV × Nat)}
    (hborn : ∀ e ∈ es, e.2.2 < clk) {C : Ctx} {Q : Exit → Act → World → Prop} : ∀ (k : Nat) (seen : List Nat) (tm : Tm) (s : ST), forkN rest K (getB t).f (putB d).f (putB e).f fin j m clk es k seen tm s = true →
      ∀ (ρ : Ren) (a : Act) (w : World), TmR ρ n tm a → Ok C ρ s w → s.heap.get j = .mit (some m) clk seen clk → s.mapOf m = some (es, clk) → j < s.lo → m < s.lo → j ≠ s.it → m ≠ s.it → s.lo ≤ s.next →
      (∀ nn tm' s' ρ' a' w', fin nn tm' s' = true → ExtF j s s' ρ ρ' → TmR ρ' n tm' a' → a'.defers = a.defers → FrC (.loop x) a a' → Ok C ρ' s' w' → Q (.exit nn) a' w') →
      ∀ (b : Frame) (kk : List Item) (cs : List Frame), ∃ e a' w', Q e a' w' ∧ Arrives P (lone (b.at a (.code x :: .inLoop x :: kk)) cs w) b kk cs e a' w' := by
  intro k
  induction k with
  | zero => intro seen tm s h; cases h
  | succ k ih =>
    intro seen tm s hrun ρ a w htm hok hgj hm hjl hml hji hmi hlo hQ b kk cs
    unfold forkN at hrun
    split at hrun
    · cases hrun
    rename_i hptr
    obtain ⟨id, ops, o, q, hxe, hops, hg1, hg2, ho1, ho2, hq1, hq2, ht5, hd5⟩ := iterOf_ok hit
    subst hops
    have hdn : d < n := hd d (by rw [hxe]; simp [dsts, dstsOps, ho2])
    have hen : e < n := hd e (by rw [hxe]; simp [dsts, dstsOps, ho2, hq2])
    have hdstr : ∀ u, u ∉ dsts x → u ≠ d ∧ u ≠ e ∧ u ∉ dsts r0 := by
      intro u hu
      rw [hxe] at hu
      simp only [dsts, dstsOps, ho2, hq2, List.cons_append, List.nil_append, List.mem_cons, not_or] at hu
      exact hu
    have hptr' : (getB t).f tm = .ptr j 0 := by
      unfold ptrIs at hptr
      split at hptr
      · rename_i i hi
        have := Nat.eq_of_beq_eq_true hptr
        subst this
        exact asPtr_iff.1 hi
      · cases hptr
    have hpj := htm.rel t ht5
    rw [hptr', VR.ptr_iff] at hpj
    obtain ⟨p, hp, hev0⟩ := hpj
    have hj3 : j < 32768 := Nat.lt_of_lt_of_le (hok.dom j p hp) hok.bound
    obtain ⟨oj, hoj, hrj⟩ := hok.obj j p hp (by rw [hgj]; rfl)
    rw [hgj] at hrj
    obtain ⟨rr, rfl, hp0, qm, hqm, rfl⟩ := hrj
    have hm3 : m < 32768 := Nat.lt_of_lt_of_le (hok.dom m qm hqm) hok.bound
    have hmj : m ≠ j := by
      rintro rfl
      have := asMap_iff.1 hm
      rw [hgj] at this
      cases this
    obtain ⟨arr, harr, herl⟩ := hok.mapAt hqm hm
    have harr : w.heap[qm.blk]? = some (.map arr clk) := harr
    have hab : ∀ z ∈ arr.toList, z.born < clk := by
      intro z hz
      obtain ⟨i, hi⟩ := List.mem_iff_getElem?.1 hz
      obtain ⟨e1, he1, _, _, hbn⟩ := herl.getR hi
      rw [hbn]
      exact hborn e1 (List.mem_of_getElem? he1)
    obtain ⟨v, w2, hnext, hcase⟩ := next_any (P := P) hoj harr hab o.type
    have hover := next_left (P := P) hoj harr hab o.type hnext
    have hev : a.eval (.tmp t) = .pointer (some ⟨p.blk, 0, none⟩) := by
      rw [hp0] at hev0
      exact hev0
    have head : ∀ (bv : Bool) (sv : SV) (vs : List Value), v = .tuple ⟨.bool bv :: vs⟩ → VR ρ sv v → ∀ Q1 : Exit → Act → World → Prop,
        (TmR ρ n ((putB e).f (.bool bv) ((putB d).f sv tm)) ((a.put (some d) v).put (some e) (.bool bv)) → r0.wp P Q1 ((a.put (some d) v).put (some e) (.bool bv)) w2) → x.wp P Q1 a w := by
      intro bv sv vs hv hsv Q1 hk
      rw [hxe]
      refine wp_seq (wp_region ?_)
      have h0 : (#[o, q] : Array Oper)[0]? = some o := rfl
      have h1 : (#[o, q] : Array Oper)[1]? = some q := rfl
      show wpOps P #[o, q] _ [0, 1] a w
      simp only [wpOps, h0, h1]
      rw [if_pos (by simp [Region.wanted, hg1])]
      refine .inl (wp_value (v' := v) (w' := w2) ?_ ?_)
      · simp only [execOp, ho1, hev]
        rw [Sem.run_bind, hnext]
        rfl
      · rw [if_pos (by simp [Region.wanted, hg2]), ho2]
        refine .inl (wp_value (v' := .bool bv) (w' := w2) ?_ ?_)
        · have he2 : (a.put (some d) v).eval (.tmp d) = v := getD_put_same (by rw [htm.size]; exact hdn)
          simp only [execOp, hq1]
          rw [he2, hv]
          rfl
        · rw [hq2]
          exact hk ((htm.put hdn hsv).put hen (VR.bool_iff.2 rfl))
    have hfr2 : ∀ (bv : Bool) u, u ∉ dsts x → ((a.put (some d) v).put (some e) (.bool bv)).tmps.getD u undef = a.tmps.getD u undef := by
      intro bv u hu
      obtain ⟨u1, u2, _⟩ := hdstr u hu
      rw [getD_put_ne u2, getD_put_ne u1]
    split at hrun
    · -- all have come
      rename_i hleft
      split at hrun
      · rename_i nn tm3 s3 hlast
        rcases hcase with ⟨rfl, hw2⟩ | ⟨i, mm, hmi', hseen, _⟩
        · have hok2 : Ok C ρ s w2 := by
            rcases hw2 with rfl | rfl
            · exact hok
            · exact hok.drew
          have hx : x.wp P (fun e1 a1 w1 => e1 = .exit nn ∧ Q e1 a1 w1) a w := by
            refine head false (.tup [.bool false]) [] rfl (VR.tup_iff.2 ⟨_, rfl, .cons (VR.bool_iff.2 rfl) .nil⟩) _ fun ht2 => ?_
            refine hr _ _ _ _ _ hlast C ρ _ w2 ht2 hok2 hlo _ fun ρ' a' w' x1 x2 x3 x4 x5 => ⟨rfl, ?_⟩
            refine hQ nn tm3 s3 ρ' a' w' hrun (x1.toF hlo j) x2 (x3.trans (by rw [defers_put, defers_put])) (fun u hu => ?_) x5
            have hu' : u ∉ dsts x := hu
            rw [x4 u (hdstr u hu').2.2]
            exact hfr2 false u hu'
          obtain ⟨e1, a1, w1, ⟨rfl, hq⟩, harr1⟩ := hx b (.inLoop x :: kk) cs
          exact ⟨_, a1, w1, hq, .pass (x := .inLoop x) rfl (fun _ _ => .inl (by simp)) harr1⟩
        · exfalso
          have hmi2 : arr.toList[i]? = some mm := by rw [Array.getElem?_toList]; exact hmi'
          obtain ⟨e1, he1, _, _, hbn⟩ := herl.getR hmi2
          have : e1 ∈ leftOf seen es := leftOf_mem (List.mem_of_getElem? he1) (by rw [← hbn]; simpa using hseen)
          rw [hleft] at this
          simp at this
      · cases hrun
    · -- one of those that are left
      rename_i e0 l0 hleft
      have hall := allE_ok hrun
      rcases hcase with ⟨rfl, _⟩ | ⟨i, mm, hmi', hseen, rfl, w0, hw0, hw2⟩
      · exfalso
        obtain ⟨h1, h2⟩ := leftOf_inv (seen := seen) (es := es) (e := e0) (by rw [hleft]; simp)
        obtain ⟨i, hi⟩ := List.mem_iff_getElem?.1 h1
        obtain ⟨mm, hmm, _, _, hbn⟩ := herl.get i e0 hi
        have := hover rfl mm (List.mem_of_getElem? hmm)
        rw [hbn] at this
        exact h2 (by simpa using this)
      · have hmi2 : arr.toList[i]? = some mm := by rw [Array.getElem?_toList]; exact hmi'
        obtain ⟨e1, he1, hk1, hv1, hbn⟩ := herl.getR hmi2
        have hel : e1 ∈ e0 :: l0 := by
          rw [← hleft]
          exact leftOf_mem (List.mem_of_getElem? he1) (by rw [← hbn]; simpa using hseen)
        have hround := hall e1 hel
        split at hround
        · rename_i tm2 s2 hrd
          have hok0 : Ok C ρ s w0 := by
            rcases hw0 with rfl | rfl
            · exact hok
            · exact hok.drew
          have hheap0 : w0.heap = w.heap := by rcases hw0 with rfl | rfl <;> rfl
          have hokR : Ok C ρ ⟨s.heap.set j (.mit (some m) clk (seen ++ [e1.2.2]) clk), s.next, s.lo, s.it⟩ w2 := by
            have e3 : w2 = { w0 with heap := w0.heap.setIfInBounds p.blk (.mapIter (some qm.blk) clk (seen.toArray.push mm.born) clk) } := by rw [hheap0]; exact hw2
            rw [e3]
            exact hok0.write hp (by rw [hgj]; rfl) ⟨some qm.blk, by simp [hbn], hp0, qm, hqm, rfl⟩ rfl
          have hsRj : (s.heap.set j (.mit (some m) clk (seen ++ [e1.2.2]) clk)).get j = .mit (some m) clk (seen ++ [e1.2.2]) clk := H3.get_set_same _ _ hj3
          have hx : x.wp P (fun e1' a1 w1 => e1' = .normal ∧ ∃ ρ1, ExtF j s s2 ρ ρ1 ∧ TmR ρ1 n tm2 a1 ∧ a1.defers = a.defers ∧ FrC (.loop x) a a1 ∧ Ok C ρ1 s2 w1 ∧ s2.heap.get j = .mit (some m) clk (seen ++ [e1.2.2]) clk ∧ s2.mapOf m = some (es, clk)) a w := by
            refine head true (.tup [.bool true, e1.1, e1.2.1]) [mm.key, mm.val] rfl (VR.tup_iff.2 ⟨_, rfl, .cons (VR.bool_iff.2 rfl) (.cons hk1 (.cons hv1 .nil))⟩) _ fun ht2 => ?_
            refine hr _ _ _ _ _ hrd C ρ _ w2 ht2 hokR hlo _ fun ρ' a' w' x1 x2 x3 x4 x5 => ?_
            have hk := x1.keep hlo
            refine ⟨rfl, ρ', ⟨x1.le, x1.same, x1.next, x1.lo, x1.it, fun i hi h1 h2 => ?_⟩, x2, x3.trans (by rw [defers_put, defers_put]), fun u hu => ?_, x5, ?_, ?_⟩
            · rw [hk i hi h1]
              have hi3 : i < 32768 := by have := hok.bound; omega
              exact H3.get_set_ne _ _ hj3 hi3 h2
            · have hu' : u ∉ dsts x := hu
              rw [x4 u (hdstr u hu').2.2]
              exact hfr2 true u hu'
            · rw [hk j hjl hji]
              exact hsRj
            · unfold ST.mapOf
              rw [hk m hml hmi]
              show ((s.heap.set j _).get m).asMap = _
              rw [H3.get_set_ne _ _ hj3 hm3 hmj]
              exact hm
          obtain ⟨e1', a1, w1, ⟨rfl, ρ1, x1, x2, x3, x4, x5, x6, x7⟩, harr1⟩ := hx b (.inLoop x :: kk) cs
          obtain ⟨e2, a2, w3, hq2, harr2⟩ := ih (seen ++ [e1.2.2]) tm2 s2 hround ρ1 a1 w1 x2 x5 x6 x7 (by rw [x1.lo]; exact hjl) (by rw [x1.lo]; exact hml) (by rw [x1.it]; exact hji) (by rw [x1.it]; exact hmi)
            (by rw [x1.lo]; exact Nat.le_trans hlo x1.next)
            (fun nn tm' s' ρ' a' w' y0 y1 y2 y3 y4 y5 => hQ nn tm' s' ρ' a' w' y0 (x1.trans y1) y2 (y3.trans x3) (fun u hu => (y4 u hu).trans (x4 u hu)) y5) b kk cs
          exact ⟨e2, a2, w3, hq2, .of_steps (Steps.trans harr1 (.one step_inLoop)) harr2⟩
        · cases hround

/-- blocks may be forgotten -/
theorem Ok.weak {C : Ctx} {ρ : Ren} {s t : ST} {w : World} (h : Ok C ρ s w) (hn : t.next = s.next) (hg : ∀ i, i < s.next → (t.heap.get i).live = true → t.heap.get i = s.heap.get i) : Ok C ρ t w := by
  have hlt : ∀ i q, ρ i = some q → i < s.next := fun i q hq => h.dom i q hq
  refine ⟨h.os, h.tape, h.output, fun i q hq hi => ?_, fun i k q r hq hr hi hk => ?_, fun b o hF => ⟨(h.far b o hF).1, fun i q hq hi => ?_⟩, fun i q hq => by rw [hn]; exact h.dom i q hq, by rw [hn]; exact h.bound, fun i q o hq hi => ?_⟩
  · have e := hg i (hlt i q hq) hi
    rw [e] at hi ⊢; exact h.obj i q hq hi
  · have e := hg i (hlt i q hq) hi
    have e' := hg k (hlt k r hr) hk
    rw [e] at hi
    rw [e'] at hk
    exact h.inj i k q r hq hr hi hk
  · have e := hg i (hlt i q hq) hi
    rw [e] at hi; exact (h.far b o hF).2 i q hq hi
  · intro hC
    have e := hg i (hlt i q hq) (SO.live_of_isL hi)
    rw [e] at hi; exact h.itr i q o hq hi hC

theorem forkB_eq (plain rest after : CallF → Tm → ST → R) (id t d e : Nat) (ds ks : List Nat) (slot : Option Nat) (tm : Tm) (s : ST) : forkB plain rest after id t d e ds ks slot K tm s = match ((getB t).f tm).asPtr with
    | some (j, 0) => match s.heap.get j with
      | .mit (some m) since [] stepped => match s.mapOf m with
        | some (en :: en' :: es, c) => match slotAt slot tm s with
          | i0 => match Nat.beq c stepped && (Nat.beq since c && (bornLt c (en :: en' :: es) && (!Nat.beq j i0 && (!Nat.beq m i0 && (Nat.ble s.lo i0 || Nat.beq s.it i0))))) with
            | true => match firstN rest K (putB d).f (putB e).f j m c (en :: en' :: es) (lenE (en :: en' :: es)) [] tm ⟨s.heap, s.next, s.next, i0⟩, firstN rest K (putB d).f (putB e).f j m c (en' :: (es ++ [en])) (lenE (en :: en' :: es)) [] tm ⟨s.heap, s.next, s.next, i0⟩ with
              | .ok _ tm1 s1, .ok _ tm2 s2 => match after K tm1 s1, after K tm2 s2 with
                | .ok _ tmC sC, .ok _ _ sD => match s.put j .dead with
                  | some sd => match putL tmC ks (blank ds tm) with
                    | T => match (⟨(meetRange sC.heap sD.heap (Nat.sub sC.next s.next) s.next sd.heap).set i0 (sC.heap.get i0), sC.next, s.lo, s.it⟩ : ST) with
                      | S => match Nat.ble sC.next 32768 && (Nat.blt i0 32768 && forkN rest K (getB t).f (putB d).f (putB e).f (leafOk after K id ks T S i0 s.next) j m c (en :: en' :: es) (lenE (en :: en' :: es)) [] tm ⟨s.heap, s.next, s.next, i0⟩) with
                        | true => .ok .normal T S
                        | false => .no
                  | none => .no
                | _, _ => .no
              | _, _ => .no
            | false => .no
        | _ => plain K tm s
      | _ => plain K tm s
    | _ => .no := by
  unfold forkB
  generalize getB t = g
  generalize putB d = p
  generalize putB e = q
  obtain ⟨g⟩ := g
  obtain ⟨p⟩ := p
  obtain ⟨q⟩ := q
  rfl

/-- two pieces of code, one behind the other -/
def Code2Ok (P : Program) (n : Nat) (x y : Code) (run : Tm → ST → R) : Prop :=
  ∀ (tm : Tm) (s : ST) (e : Ex) (tm' : Tm) (s' : ST), run tm s = .ok e tm' s' → ∀ (C : Ctx) (ρ : Ren) (a : Act) (w : World), TmR ρ n tm a → Ok C ρ s w → s.lo ≤ s.next →
    ∀ Q : Exit → Act → World → Prop, (∀ ρ' a' w', Ext s s' ρ ρ' → TmR ρ' n tm' a' → a'.defers = a.defers → FrC (.seq x y) a a' → Ok C ρ' s' w' → Q (exOf e) a' w') → x.wp P (Exit.then (y.wp P Q) Q) a w
theorem CodeOk.seq2 {x y : Code} {f g : Tm → ST → R} (hx : CodeOk P n x f) (hy : CodeOk P n y g) : Code2Ok P n x y fun tm s => (f tm s).then g := by
  intro tm s e tm' s' hrun C ρ a w htm hok hlo Q hQ
  rcases then_ok hrun with ⟨tm1, s1, h1, h2⟩ | ⟨hne, h1⟩
  · refine hx tm s _ tm1 s1 h1 C ρ a w htm hok hlo _ fun ρ1 a1 w1 e1 t1 d1 f1 o1 => ?_
    refine hy tm1 s1 e tm' s' h2 C ρ1 a1 w1 t1 o1 (lon_ext e1 hlo) Q fun ρ2 a2 w2 e2 t2 d2 f2 o2 => ?_
    exact hQ ρ2 a2 w2 (e1.trans e2) t2 (d2.trans d1) (fun t ht => (f2 t (fun hh => ht (by simp [dsts, hh]))).trans (f1 t (fun hh => ht (by simp [dsts, hh])))) o2
  · refine hx tm s e tm' s' h1 C ρ a w htm hok hlo _ fun ρ1 a1 w1 e1 t1 d1 f1 o1 => ?_
    have := hQ ρ1 a1 w1 e1 t1 d1 (fun t ht => f1 t (fun hh => ht (by simp [dsts, hh]))) o1
    cases e with
    | normal => exact absurd rfl hne
    | exit m => exact this
    | ret => exact this

theorem forkB_ok {z r0 r : Code} {plain rest after : CallF → Tm → ST → R} {id t d e : Nat} {ks : List Nat} {slot : Option Nat} (hr : CodeOk P n r0 (rest K)) (ha : CodeOk P n r (after K)) (hp : Code2Ok P n (.block id (.loop z)) r (plain K))
    (hit : iterOf z = some (t, d, e, r0)) (hd : ∀ u ∈ dsts (.seq (.block id (.loop z)) r), u < n) (hn5 : n ≤ 512) (hks : ∀ u ∈ ks, u < 512) :
    Code2Ok P n (.block id (.loop z)) r (forkB plain rest after id t d e (dsts (.seq (.block id (.loop z)) r)) ks slot K) := by
  intro tm s ex tmF sF hrun C ρ a w htm hok hlo Q hQ
  rw [forkB_eq] at hrun
  split at hrun
  · rename_i j hj
    split at hrun
    · rename_i m since stepped hgj
      split at hrun
      · rename_i en en' es c hm
        generalize hi0 : slotAt slot tm s = i0 at hrun
        dsimp only at hrun
        split at hrun
        · rename_i hb
          simp only [Bool.and_eq_true, Bool.or_eq_true, Bool.not_eq_true'] at hb
          obtain ⟨hb1, hb2, hb3, hb4, hb5, hb6⟩ := hb
          have hb1 := Nat.eq_of_beq_eq_true hb1
          have hb2 := Nat.eq_of_beq_eq_true hb2
          subst hb1 hb2
          have hborn := bornLt_ok hb3
          have hji : j ≠ i0 := fun hh => by rw [hh, Nat.beq_refl] at hb4; cases hb4
          have hmi : m ≠ i0 := fun hh => by rw [hh, Nat.beq_refl] at hb5; cases hb5
          split at hrun
          · rename_i e1x tm1 s1 e1y tm2 s2 hfirst hfirst2
            split at hrun
            · rename_i e2x tmC sC e2y tmD sD hafterC hafterD
              split at hrun
              · rename_i sd hput
                generalize hT : putL tmC ks (blank (dsts (.seq (.block id (.loop z)) r)) tm) = T at hrun
                generalize hS : (⟨(meetRange sC.heap sD.heap (Nat.sub sC.next s.next) s.next sd.heap).set i0 (sC.heap.get i0), sC.next, s.lo, s.it⟩ : ST) = S at hrun
                split at hrun
                · rename_i hc
                  injection hrun with q1 q2 q3
                  subst q1 q2 q3
                  simp only [Bool.and_eq_true] at hc
                  obtain ⟨hc1, hc2, hc3⟩ := hc
                  have hc1 := Nat.le_of_ble_eq_true hc1
                  have hc2 : i0 < 32768 := by simpa [Nat.blt_eq] using hc2
                  obtain ⟨rfl, hjp⟩ := put_ok hput
                  obtain ⟨_, _, _, _, _, _, _, _, _, _, _, _, ht5, _⟩ := iterOf_ok hit
                  have hpj := htm.rel t ht5
                  rw [asPtr_iff.1 hj, VR.ptr_iff] at hpj
                  obtain ⟨p, hp', _⟩ := hpj
                  have hjn : j < s.next := hok.dom j p hp'
                  have hb := hok.bound
                  obtain ⟨oj, _, hrj⟩ := hok.obj j p hp' (by rw [hgj]; rfl)
                  rw [hgj] at hrj
                  obtain ⟨_, _, _, qm, hqm, _⟩ := hrj
                  have hmn : m < s.next := hok.dom m qm hqm
                  have hok0 : Ok C ρ ⟨s.heap, s.next, s.next, i0⟩ w := hok.congr rfl fun _ _ => rfl
                  have hSn : S.next = sC.next := by rw [← hS]
                  have hSl : S.lo = s.lo := by rw [← hS]
                  have hSi : S.it = s.it := by rw [← hS]
                  have hSg : ∀ i, i < 32768 → i ≠ i0 → S.heap.get i = if s.next ≤ i ∧ i < s.next + Nat.sub sC.next s.next then meet (sC.heap.get i) (sD.heap.get i) else (s.heap.set j .dead).get i := by
                    intro i hi hne
                    rw [← hS]
                    show ((meetRange sC.heap sD.heap (Nat.sub sC.next s.next) s.next (s.heap.set j .dead)).set i0 _).get i = _
                    rw [H3.get_set_ne _ _ hc2 hi hne, meetRange_get (by have : Nat.sub sC.next s.next = sC.next - s.next := rfl; omega) i hi]
                  refine wp_block ?_
                  intro b kk cs
                  obtain ⟨e1, a1, w1, hq, harr⟩ := fork_ok hr hit (fun u hu => hd u (by simp [dsts, hu])) hborn (C := C) (Q := Exit.inBlock id (Exit.then (r.wp P Q) Q)) _ [] tm ⟨s.heap, s.next, s.next, i0⟩ hc3 ρ a w htm hok0 hgj hm hjn hmn hji hmi (Nat.le_refl _)
                    (fun nn tm' s' ρ' a' w' y0 y1 y2 y3 y4 y5 => by
                      unfold leafOk at y0
                      split at y0
                      · rename_i hnn
                        have hnn := Nat.eq_of_beq_eq_true hnn
                        subst hnn
                        split at y0
                        · rename_i tm2 s2 hafter
                          simp only [Bool.and_eq_true, Bool.or_eq_true] at y0
                          obtain ⟨z1, z2, z3, z4⟩ := y0
                          have z2 := Nat.eq_of_beq_eq_true z2
                          show (if nn = nn then _ else _)
                          rw [if_pos rfl]
                          show r.wp P Q a' w'
                          have hlo' : s'.lo ≤ s'.next := by rw [y1.lo]; exact y1.next
                          refine ha _ _ _ _ _ hafter C ρ' a' w' y2 y5 hlo' Q fun ρ2 a2 w2 x1 x2 x3 x4 x5 => ?_
                          have x := y1.trans (x1.toF hlo' j)
                          have hxn : s.next ≤ s2.next := x.next
                          have hrange : ∀ i, s.next ≤ i → i < s2.next → (S.heap.get i).live = true → S.heap.get i = s2.heap.get i := fun i h1 h2 h3 => rangeSub_ok z3 i h1 (by have : Nat.sub S.next s.next = S.next - s.next := rfl; omega) h3
                          refine hQ ρ2 a2 w2 ⟨x.le, x.same, by rw [← z2]; exact hxn, hSl, hSi, fun hl i hi1 hi2 => ?_⟩ ⟨x2.size, x2.small, fun u hu => ?_⟩ (x3.trans y3) (fun u hu => ?_) ?_
                          · have hii : i ≠ i0 := by
                              rintro rfl
                              rcases hb6 with h6 | h6
                              · have := Nat.le_of_ble_eq_true h6; omega
                              · exact hi2 (Nat.eq_of_beq_eq_true h6).symm
                            have hij : i ≠ j := by
                              rintro rfl
                              rcases hjp with h6 | h6
                              · omega
                              · exact hi2 h6.symm
                            rw [hSg i (by omega) hii, if_neg (by omega), H3.get_set_ne _ _ (by omega) (by omega) hij]
                          · rw [← hT]
                            by_cases huk : u ∈ ks
                            · rw [hT, ← sameKs_ok z1 u huk]
                              exact x2.rel u hu
                            · rw [putL_get hks u hu, if_neg huk, blank_get (fun v hv => Nat.lt_of_lt_of_le (hd v hv) hn5) u hu]
                              split
                              · simp [VR]
                              · rename_i hud
                                have h1 : u ∉ dsts (.loop z) := fun hh => hud (by simp only [dsts] at hh ⊢; simp [hh])
                                have h2 : u ∉ dsts r := fun hh => hud (by simp [dsts, hh])
                                rw [x4 u h2, y4 u h1]
                                exact (htm.rel u hu).mono x.le _ _
                          · have h1 : u ∉ dsts (.loop z) := fun hh => hu (by simp only [dsts] at hh ⊢; simp [hh])
                            have h2 : u ∉ dsts r := fun hh => hu (by simp [dsts, hh])
                            rw [x4 u h2, y4 u h1]
                          · have hj3 : j < 32768 := by omega
                            refine (x5.kill hj3).weak z2.symm fun i hi hlv => ?_
                            have hi : i < s2.next := hi
                            have hi3 : i < 32768 := Nat.lt_of_lt_of_le hi x5.bound
                            show S.heap.get i = (s2.heap.set j .dead).get i
                            by_cases h1 : i = i0
                            · subst h1
                              rw [H3.get_set_ne _ _ hj3 hi3 (Ne.symm hji)]
                              rcases Nat.lt_or_ge i s.next with h2 | h2
                              · rcases z4 with z4 | z4
                                · have := Nat.le_of_ble_eq_true z4; omega
                                · exact (sameO2_eq z4).symm
                              · exact hrange i h2 hi hlv
                            · by_cases h2 : i = j
                              · subst h2
                                rw [hSg i hi3 h1, if_neg (by omega), H3.get_set_same _ _ hj3, H3.get_set_same _ _ hj3]
                              · rw [H3.get_set_ne _ _ hj3 hi3 h2]
                                rcases Nat.lt_or_ge i s.next with h3 | h3
                                · rw [hSg i hi3 h1, if_neg (by omega), H3.get_set_ne _ _ hj3 hi3 h2]
                                  exact (x.keep i h3 h1 h2).symm
                                · exact hrange i h3 hi hlv
                        · cases y0
                      · cases y0) b kk cs
                  exact ⟨e1, a1, w1, hq, .of_steps (.one step_loop) harr⟩
                · cases hrun
              · cases hrun
            · cases hrun
          · cases hrun
        · cases hrun
      · exact hp tm s ex tmF sF hrun C ρ a w htm hok hlo Q hQ
    · exact hp tm s ex tmF sF hrun C ρ a w htm hok hlo Q hQ
  · cases hrun

end
end Go.Exe
namespace Go.Exe
open Go

noncomputable def intsL : List SV → Option (List Int)
  | [] => some []
  | x :: l => match x.asInt with
    | some (.i64, n) => match intsL l with
      | some r => some (n :: r)
      | none => none
    | _ => none
/-- the slice in a temporary: its length, its element's size, its block's type and cells -/
noncomputable def endD (k : Nat) (tm : Tm) (s : ST) : Option (Nat × Nat × Nat × List SV) :=
  match ((getB k).f tm).asSl with
  | some (false, jb, 0, n, z) => match s.cellsT jb with
    | some (t, l) => some (n, z, t, l)
    | none => none
  | _ => none
noncomputable def leafD (after : CallF → Tm → ST → R) (K : CallF) (id k nn z t : Nat) (l : List SV) (L0 : Nat) (n : Nat) (tm : Tm) (s : ST) : Bool :=
  match Nat.beq n id with
  | true => match after K tm s with
    | .ok .normal tm s => match ((getB k).f tm).asSl with
      | some (false, jb, 0, n', z') => match s.cellsT jb with
        | some (t', l') => Nat.beq n' nn && (Nat.beq z' z && (Nat.beq t' t && (Nat.ble L0 jb && sames l' l)))
        | none => false
      | _ => false
    | _ => false
  | false => false

noncomputable def forkD (plain rest after : CallF → Tm → ST → R) (id t d e : Nat) (ds : List Nat) (k : Nat) : CallF → Tm → ST → R :=
  match getB t, putB d, putB e with
  | ⟨g⟩, ⟨p⟩, ⟨q⟩ => fun K tm s => match (g tm).asPtr with
    | some (j, 0) => match s.heap.get j with
      | .mit (some m) since [] stepped => match s.mapOf m with
        | some (en :: en' :: es, c) => match Nat.beq c stepped && (Nat.beq since c && (bornLt c (en :: en' :: es) && Nat.blt s.next 32768)) with
          | true => match firstN rest K p q j m c (en :: en' :: es) (lenE (en :: en' :: es)) [] tm ⟨s.heap, s.next, s.next, s.next⟩ with
            | .ok _ tm1 s1 => match after K tm1 s1 with
              | .ok _ tmC sC => match endD k tmC sC, s.put j .dead with
                | some (nn, z, ty, l), some sd => match intsL l with
                  | some _ => match forkN rest K g p q (leafD after K id k nn z ty l s.next) j m c (en :: en' :: es) (lenE (en :: en' :: es)) [] tm ⟨s.heap, s.next, s.next, s.next⟩ with
                    | true => .ok .normal ((putB k).f (.sx s.next 0 nn z) (blank ds tm)) ⟨sd.heap.set s.next (.cells ty l), Nat.succ s.next, s.lo, s.it⟩
                    | false => .no
                  | none => .no
                | _, _ => .no
              | .no => .no
            | .no => .no
          | false => .no
        | _ => plain K tm s
      | _ => plain K tm s
    | _ => .no

/-! ### Looks -/
theorem intsL_int {ρ : Ren} : ∀ {l : List SV} {ns : List Int} {vs : List Value}, intsL l = some ns → VRL ρ l vs → ∀ ρ' : Ren, VRL ρ' l vs
  | [], ns, vs, h, hv, ρ' => by
    rw [VRL.nil_iff.1 hv]; exact .nil
  | x :: l, ns, vs, h, hv, ρ' => by
    obtain ⟨v, vs, rfl, h1, h2⟩ := VRL.cons_iff.1 hv
    unfold intsL at h
    split at h
    · rename_i n hn
      split at h
      · rename_i r hr
        rw [asInt_iff.1 hn, VR.int_iff] at h1
        refine .cons ?_ (intsL_int hr h2 ρ')
        rw [asInt_iff.1 hn, VR.int_iff]
        exact h1
      · cases h
    · cases h

section
variable {P : Program} {K : CallF} {E : Env} {n : Nat}

theorem forkD_eq (plain rest after : CallF → Tm → ST → R) (id t d e : Nat) (ds : List Nat) (k : Nat) (tm : Tm) (s : ST) : forkD plain rest after id t d e ds k K tm s = match ((getB t).f tm).asPtr with
    | some (j, 0) => match s.heap.get j with
      | .mit (some m) since [] stepped => match s.mapOf m with
        | some (en :: en' :: es, c) => match Nat.beq c stepped && (Nat.beq since c && (bornLt c (en :: en' :: es) && Nat.blt s.next 32768)) with
          | true => match firstN rest K (putB d).f (putB e).f j m c (en :: en' :: es) (lenE (en :: en' :: es)) [] tm ⟨s.heap, s.next, s.next, s.next⟩ with
            | .ok _ tm1 s1 => match after K tm1 s1 with
              | .ok _ tmC sC => match endD k tmC sC, s.put j .dead with
                | some (nn, z, ty, l), some sd => match intsL l with
                  | some _ => match forkN rest K (getB t).f (putB d).f (putB e).f (leafD after K id k nn z ty l s.next) j m c (en :: en' :: es) (lenE (en :: en' :: es)) [] tm ⟨s.heap, s.next, s.next, s.next⟩ with
                    | true => .ok .normal ((putB k).f (.sx s.next 0 nn z) (blank ds tm)) ⟨sd.heap.set s.next (.cells ty l), Nat.succ s.next, s.lo, s.it⟩
                    | false => .no
                  | none => .no
                | _, _ => .no
              | .no => .no
            | .no => .no
          | false => .no
        | _ => plain K tm s
      | _ => plain K tm s
    | _ => .no := by
  unfold forkD
  generalize getB t = g
  generalize putB d = p
  generalize putB e = q
  obtain ⟨g⟩ := g
  obtain ⟨p⟩ := p
  obtain ⟨q⟩ := q
  rfl

theorem forkD_ok {z r0 r : Code} {plain rest after : CallF → Tm → ST → R} {id t d e k : Nat} (hr : CodeOk P n r0 (rest K)) (ha : CodeOk P n r (after K)) (hp : Code2Ok P n (.block id (.loop z)) r (plain K))
    (hit : iterOf z = some (t, d, e, r0)) (hd : ∀ u ∈ dsts (.seq (.block id (.loop z)) r), u < n) (hn5 : n ≤ 512) (hk : k < 512) :
    Code2Ok P n (.block id (.loop z)) r (forkD plain rest after id t d e (dsts (.seq (.block id (.loop z)) r)) k K) := by
  intro tm s ex tmF sF hrun C ρ a w htm hok hlo Q hQ
  rw [forkD_eq] at hrun
  split at hrun
  · rename_i j hj
    split at hrun
    · rename_i m since stepped hgj
      split at hrun
      · rename_i en en' es c hm
        split at hrun
        · rename_i hb
          simp only [Bool.and_eq_true] at hb
          obtain ⟨hb1, hb2, hb3, hb4⟩ := hb
          have hb1 := Nat.eq_of_beq_eq_true hb1
          have hb2 := Nat.eq_of_beq_eq_true hb2
          have hb4 : s.next < 32768 := by simpa [Nat.blt_eq] using hb4
          subst hb1 hb2
          have hborn := bornLt_ok hb3
          split at hrun
          · rename_i e1x tm1 s1 hfirst
            split at hrun
            · rename_i e2x tmC sC hafterC
              split at hrun
              · rename_i nn zz tt l sd hend hput
                split at hrun
                · rename_i ns hints
                  split at hrun
                  · rename_i hc3
                    injection hrun with q1 q2 q3
                    subst q1 q2 q3
                    obtain ⟨rfl, hjp⟩ := put_ok hput
                    obtain ⟨_, _, _, _, _, _, _, _, _, _, _, _, ht5, _⟩ := iterOf_ok hit
                    have hpj := htm.rel t ht5
                    rw [asPtr_iff.1 hj, VR.ptr_iff] at hpj
                    obtain ⟨p, hp', _⟩ := hpj
                    have hjn : j < s.next := hok.dom j p hp'
                    have hb := hok.bound
                    obtain ⟨oj, _, hrj⟩ := hok.obj j p hp' (by rw [hgj]; rfl)
                    rw [hgj] at hrj
                    obtain ⟨_, _, _, qm, hqm, _⟩ := hrj
                    have hmn : m < s.next := hok.dom m qm hqm
                    have hok0 : Ok C ρ ⟨s.heap, s.next, s.next, s.next⟩ w := hok.congr rfl fun _ _ => rfl
                    have hj3 : j < 32768 := by omega
                    refine wp_block ?_
                    intro b kk cs
                    obtain ⟨e1, a1, w1, hq, harr⟩ := fork_ok hr hit (fun u hu => hd u (by simp [dsts, hu])) hborn (C := C) (Q := Exit.inBlock id (Exit.then (r.wp P Q) Q)) _ [] tm ⟨s.heap, s.next, s.next, s.next⟩ hc3 ρ a w htm hok0 hgj hm hjn hmn (by show j ≠ s.next; omega) (by show m ≠ s.next; omega) (Nat.le_refl _)
                      (fun n1 tm' s' ρ' a' w' y0 y1 y2 y3 y4 y5 => by
                        unfold leafD at y0
                        split at y0
                        · rename_i hnn
                          have hnn := Nat.eq_of_beq_eq_true hnn
                          subst hnn
                          split at y0
                          · rename_i tm2 s2 hafter
                            split at y0
                            · rename_i jb n' z' hsl
                              split at y0
                              · rename_i t' l' hcb
                                simp only [Bool.and_eq_true] at y0
                                obtain ⟨z1, z2, z3, z4, z5⟩ := y0
                                have z1 := Nat.eq_of_beq_eq_true z1
                                have z2 := Nat.eq_of_beq_eq_true z2
                                have z3 := Nat.eq_of_beq_eq_true z3
                                have z4 := Nat.le_of_ble_eq_true z4
                                have z5 := sames_eq _ _ z5
                                subst z1 z2 z3 z5
                                show (if n1 = n1 then _ else _)
                                rw [if_pos rfl]
                                show r.wp P Q a' w'
                                have hlo' : s'.lo ≤ s'.next := by rw [y1.lo]; exact y1.next
                                refine ha _ _ _ _ _ hafter C ρ' a' w' y2 y5 hlo' Q fun ρ2 a2 w2 x1 x2 x3 x4 x5 => ?_
                                have x := y1.trans (x1.toF hlo' j)
                                have hrel := x2.rel k hk
                                rcases asSl_iff.1 hsl with ⟨hf, _⟩ | ⟨_, hsx⟩
                                · cases hf
                                rw [hsx, VR.sx_iff] at hrel
                                obtain ⟨pj, ad, cc, hpjb, hval, hcase⟩ := hrel
                                have hcj := asCellsT_iff.1 hcb
                                have hkeep : ∀ i, i < s.next → i ≠ j → s2.heap.get i = s.heap.get i := fun i h1 h2 => x.keep i h1 (by show i ≠ s.next; omega) h2
                                have hup : ρ.le (ρ.up s.next pj) := hok.up pj
                                have hSi : ∀ i, i < 32768 → i ≠ s.next → i ≠ j → ((s.heap.set j .dead).set s.next (.cells t' l')).get i = s.heap.get i := fun i h1 h2 h3 => by
                                  rw [H3.get_set_ne _ _ hb4 h1 h2, H3.get_set_ne _ _ hj3 h1 h3]
                                have hSn : ((s.heap.set j .dead).set s.next (.cells t' l')).get s.next = .cells t' l' := H3.get_set_same _ _ hb4
                                have hSj : ((s.heap.set j .dead).set s.next (.cells t' l')).get j = .dead := by rw [H3.get_set_ne _ _ hb4 hj3 (by omega), H3.get_set_same _ _ hj3]
                                -- what lives in the new state lived in the old one
                                have hlv : ∀ i q, ρ.up s.next pj i = some q → (((s.heap.set j .dead).set s.next (.cells t' l')).get i).live = true → (i = s.next ∧ q = pj) ∨ (i ≠ s.next ∧ i < s.next ∧ i ≠ j ∧ ρ i = some q ∧ ρ2 i = some q ∧ (s.heap.get i).live = true ∧ (s2.heap.get i).live = true) := by
                                  intro i q hq hi
                                  by_cases e : i = s.next
                                  · subst e
                                    rw [Ren.up_same] at hq
                                    cases hq
                                    exact .inl ⟨rfl, rfl⟩
                                  · rw [Ren.up_ne _ _ e] at hq
                                    have hin := hok.dom i q hq
                                    have hij : i ≠ j := by
                                      rintro rfl
                                      rw [hSj] at hi
                                      cases hi
                                    rw [hSi i (by omega) e hij] at hi
                                    exact .inr ⟨e, hin, hij, hq, x.le _ _ hq, hi, by rw [hkeep i hin hij]; exact hi⟩
                                refine hQ (ρ.up s.next pj) a2 w2 ⟨hup, fun i hi => Ren.up_ne _ _ (by omega), Nat.le_succ _, rfl, rfl, fun hl i hi1 hi2 => ?_⟩ ⟨x2.size, x2.small, fun u hu => ?_⟩ (x3.trans y3) (fun u hu => ?_) ⟨x5.os, x5.tape, x5.output, ?_, ?_, ?_, ?_, hb4, ?_⟩
                                · have hij : i ≠ j := by
                                    rintro rfl
                                    rcases hjp with h6 | h6
                                    · omega
                                    · exact hi2 h6.symm
                                  exact hSi i (by omega) (by omega) hij
                                · by_cases huk : u = k
                                  · subst huk
                                    rw [get_put_same _ _ hu]
                                    exact VR.sx_iff.2 ⟨pj, ad, cc, Ren.up_same _ _ _, hval, hcase⟩
                                  · rw [get_put_ne _ _ hk hu huk, blank_get (fun v hv => Nat.lt_of_lt_of_le (hd v hv) hn5) u hu]
                                    split
                                    · simp [VR]
                                    · rename_i hud
                                      have h1 : u ∉ dsts (.loop z) := fun hh => hud (by simp only [dsts] at hh ⊢; simp [hh])
                                      have h2 : u ∉ dsts r := fun hh => hud (by simp [dsts, hh])
                                      rw [x4 u h2, y4 u h1]
                                      exact (htm.rel u hu).mono hup _ _
                                · have h1 : u ∉ dsts (.loop z) := fun hh => hu (by simp only [dsts] at hh ⊢; simp [hh])
                                  have h2 : u ∉ dsts r := fun hh => hu (by simp [dsts, hh])
                                  rw [x4 u h2, y4 u h1]
                                · intro i q hq hi
                                  rcases hlv i q hq hi with ⟨rfl, rfl⟩ | ⟨h1, h2, h3, h4, h5, h6, h7⟩
                                  · obtain ⟨o, ho, hro⟩ := x5.obj jb _ hpjb (by rw [hcj]; rfl)
                                    rw [hcj] at hro
                                    refine ⟨o, ho, ?_⟩
                                    show ObjR _ _ (((s.heap.set j .dead).set s.next (.cells t' l')).get s.next) o
                                    rw [hSn]
                                    obtain ⟨arr, g0, g1, g2, g3, g4⟩ := hro
                                    exact ⟨arr, g0, g1, g2, intsL_int hints g3 _, g4⟩
                                  · obtain ⟨o2, k1, k2⟩ := x5.obj i q h5 h7
                                    obtain ⟨o1, _, k4⟩ := hok.obj i q h4 h6
                                    rw [hkeep i h2 h3] at k2
                                    refine ⟨o2, k1, ?_⟩
                                    show ObjR _ _ (((s.heap.set j .dead).set s.next (.cells t' l')).get i) o2
                                    rw [hSi i (by omega) h1 h3]
                                    exact (k4.back x.le k2).mono hup
                                · intro i i' q q' hq hq' hi hi' hbq
                                  rcases hlv i q hq hi with ⟨rfl, rfl⟩ | ⟨h1, h2, h3, h4, h5, h6, h7⟩
                                  · rcases hlv i' q' hq' hi' with ⟨rfl, rfl⟩ | ⟨k1, k2, k3, k4, k5, k6, k7⟩
                                    · rfl
                                    · have := x5.inj jb i' _ q' hpjb k5 (by rw [hcj]; rfl) k7 hbq
                                      omega
                                  · rcases hlv i' q' hq' hi' with ⟨rfl, rfl⟩ | ⟨k1, k2, k3, k4, k5, k6, k7⟩
                                    · have := x5.inj i jb q _ h5 hpjb h7 (by rw [hcj]; rfl) hbq
                                      omega
                                    · exact x5.inj i i' q q' h5 k5 h7 k7 hbq
                                · intro bb ob hF
                                  obtain ⟨k1, k2⟩ := x5.far bb ob hF
                                  refine ⟨k1, fun i q hq hi => ?_⟩
                                  rcases hlv i q hq hi with ⟨rfl, rfl⟩ | ⟨h1, h2, h3, h4, h5, h6, h7⟩
                                  · exact k2 jb _ hpjb (by rw [hcj]; rfl)
                                  · exact k2 i q h5 h7
                                · intro i q hq
                                  by_cases e : i = s.next
                                  · subst e; exact Nat.lt_succ_self _
                                  · rw [Ren.up_ne _ _ e] at hq
                                    exact Nat.lt_succ_of_lt (hok.dom i q hq)
                                · intro i q ob hq hi hC
                                  rcases hlv i q hq (SO.live_of_isL hi) with ⟨rfl, rfl⟩ | ⟨h1, h2, h3, h4, h5, h6, h7⟩
                                  · have hi : (((s.heap.set j .dead).set s.next (.cells t' l')).get s.next).isL = true := hi
                                    rw [hSn] at hi
                                    cases hi
                                  · have hi : (((s.heap.set j .dead).set s.next (.cells t' l')).get i).isL = true := hi
                                    rw [hSi i (by omega) h1 h3] at hi
                                    exact x5.itr i q ob h5 (by rw [hkeep i h2 h3]; exact hi) hC
                              · cases y0
                            · cases y0
                          · cases y0
                        · cases y0) b kk cs
                    exact ⟨e1, a1, w1, hq, .of_steps (.one step_loop) harr⟩
                  · cases hrun
                · cases hrun
              · cases hrun
            · cases hrun
          · cases hrun
        · cases hrun
      · exact hp tm s ex tmF sF hrun C ρ a w htm hok hlo Q hQ
    · exact hp tm s ex tmF sF hrun C ρ a w htm hok hlo Q hQ
  · cases hrun

end
end Go.Exe
namespace Go.Exe
open Go

/-- such a loop, what lies ahead of it, what the rounds' ends are joined behind, the rest -/
noncomputable def gatherOf (x y : Code) : Option (Code × Nat × Code × (Nat × Nat × Nat × Code) × Code × Code) :=
  match x with
  | .seq a (.block id (.loop z)) => match y with
    | .seq r tl => match iterOf z with
      | some q => some (a, id, z, q, r, tl)
      | none => none
    | _ => none
  | _ => none

/-- how such a loop is followed -/
abbrev Fk := (CallF → Tm → ST → R) → (CallF → Tm → ST → R) → (CallF → Tm → ST → R) → Nat → Nat → Nat → Nat → List Nat → CallF → Tm → ST → R
noncomputable def gspineB (E : Env) (fk : Fk) : Code → CBox
  | .seq x y => match gatherOf x y with
    | some (a, id, z, (t, d, e, r0), r, tl) => match codeB E a, codeB E (.block id (.loop z)), codeB E r0, codeB E r, codeB E tl with
      | ⟨ca⟩, ⟨cb⟩, ⟨c0⟩, ⟨cr⟩, ⟨ct⟩ => match fk (fun K tm s => (cb K tm s).then (cr K)) c0 cr id t d e (dsts (.seq (.block id (.loop z)) r)) with
        | F => ⟨fun K tm s => (ca K tm s).then fun tm s => (F K tm s).then (ct K)⟩
    | none => match codeB E x, gspineB E fk y with
      | ⟨cx⟩, ⟨cy⟩ => ⟨fun K tm s => (cx K tm s).then (cy K)⟩
  | c => codeB E c

/-- a function of this kind -/
noncomputable def funcG (E : Env) (fk : Fk) (f : Nat) : FBox :=
  match E.fs f with
  | some fn => match fn.body with
    | some c => match Nat.ble fn.ntmps 512 && (allLt fn.ntmps (dsts c) && rvLt fn.results.toList) with
      | true => match gspineB E fk c, resB E fn.results.toList with
        | ⟨b⟩, ⟨r⟩ => match fn.ntmps with
          | n => ⟨fun K args s => match Nat.ble (lenV args) n && Nat.ble s.lo s.next with
            | true => match b K (putArgs args 0 Tm.undef) s with
              | .ok e tm s => match e with
                | .exit _ => none
                | _ => match r tm s with
                  | some r => some (oneS r, s)
                  | none => none
              | .no => none
            | false => none⟩
      | false => ⟨fun _ _ _ => none⟩
    | none => ⟨fun _ _ _ => none⟩
  | none => ⟨fun _ _ _ => none⟩

section
variable {P : Program} {K : CallF} {E : Env} {n : Nat} {fk : Fk}

/-- it is followed rightly so -/
def FkOk (P : Program) (K : CallF) (fk : Fk) : Prop := ∀ {n : Nat} {z r0 r : Code} {plain rest after : CallF → Tm → ST → R} {id t d e : Nat}, CodeOk P n r0 (rest K) → CodeOk P n r (after K) → Code2Ok P n (.block id (.loop z)) r (plain K) →
    iterOf z = some (t, d, e, r0) → (∀ u ∈ dsts (.seq (.block id (.loop z)) r), u < n) → n ≤ 512 → Code2Ok P n (.block id (.loop z)) r (fk plain rest after id t d e (dsts (.seq (.block id (.loop z)) r)) K)

theorem gatherOf_ok {x y a z r tl : Code} {id : Nat} {q : Nat × Nat × Nat × Code} (h : gatherOf x y = some (a, id, z, q, r, tl)) : x = .seq a (.block id (.loop z)) ∧ y = .seq r tl ∧ iterOf z = some q := by
  unfold gatherOf at h
  split at h
  · split at h
    · split at h
      · rename_i hq
        cases h
        exact ⟨rfl, rfl, hq⟩
      · cases h
    · cases h
  · cases h

theorem gspineB_seq (x y : Code) (tm : Tm) (s : ST) : (gspineB E fk (.seq x y)).run K tm s = match gatherOf x y with
    | some (a, id, z, (t, d, e, r0), r, tl) => ((codeB E a).run K tm s).then fun tm s => (fk (fun K tm s => ((codeB E (.block id (.loop z))).run K tm s).then ((codeB E r).run K)) (codeB E r0).run (codeB E r).run id t d e (dsts (.seq (.block id (.loop z)) r)) K tm s).then ((codeB E tl).run K)
    | none => ((codeB E x).run K tm s).then ((gspineB E fk y).run K) := by
  rw [gspineB.eq_def]
  dsimp only
  cases gatherOf x y with
  | none => dsimp only
  | some p =>
    obtain ⟨a, id, z, ⟨t, d, e, r0⟩, r, tl⟩ := p
    dsimp only

theorem gspine_ok (hks : FkOk P K fk) (hE : EnvOk P E) (hS : ∀ o : Oper, Sound P K o (opB E o)) (hm : P.follows .mixedOrders = true) (hn5 : n ≤ 512) : ∀ c : Code, (∀ u ∈ dsts c, u < n) → CodeOk P n c ((gspineB E fk c).run K)
  | .seq x y, hd => by
    intro tm s e tm' s' hrun C ρ act w htm hok hlo Q hQ
    rw [gspineB_seq] at hrun
    split at hrun
    · rename_i a id z t d e0 r0 r tl hg
      obtain ⟨rfl, rfl, hit⟩ := gatherOf_ok hg
      have hda : ∀ u ∈ dsts a, u < n := fun u hu => hd u (by simp [dsts, hu])
      have hdb : ∀ u ∈ dsts (.seq (.block id (.loop z)) r), u < n := fun u hu => hd u (by simp only [dsts, List.mem_append] at hu ⊢; rcases hu with hu | hu <;> simp [hu])
      have hdt : ∀ u ∈ dsts tl, u < n := fun u hu => hd u (by simp [dsts, hu])
      have ca := code_ok hE hS hm hn5 a hda
      have cb := code_ok hE hS hm hn5 (.block id (.loop z)) fun u hu => hdb u (by simp only [dsts, List.mem_append]; exact .inl hu)
      have cr := code_ok hE hS hm hn5 r fun u hu => hdb u (by simp [dsts, hu])
      have ct := code_ok hE hS hm hn5 tl hdt
      have c0 : CodeOk P n r0 ((codeB E r0).run K) := by
        obtain ⟨_, _, _, _, hz, _⟩ := iterOf_ok hit
        exact code_ok hE hS hm hn5 r0 fun u hu => hdb u (by rw [hz]; simp [dsts, hu])
      have cf := hks (plain := fun K tm s => ((codeB E (.block id (.loop z))).run K tm s).then ((codeB E r).run K)) (rest := (codeB E r0).run) (after := (codeB E r).run) c0 cr (cb.seq2 cr) hit hdb hn5
      refine wp_seq (wp_seq ?_)
      have fin : ∀ (a1 : Act) (w1 : World), (Code.block id (.loop z)).wp P (Exit.then (r.wp P (Exit.then (tl.wp P Q) Q)) (Exit.then (tl.wp P Q) Q)) a1 w1 → (Code.block id (.loop z)).wp P (Exit.then ((Code.seq r tl).wp P Q) Q) a1 w1 := by
        intro a1 w1 h
        refine wp_mono h fun e2 a2 w2 h2 => ?_
        cases e2 <;> first | exact h2 | exact wp_seq h2
      rcases then_ok hrun with ⟨tm1, s1, h1, h2⟩ | ⟨hne, h1⟩
      · refine ca _ _ _ _ _ h1 C ρ act w htm hok hlo _ fun ρ1 a1 w1 e1 t1 d1 f1 o1 => ?_
        refine fin a1 w1 ?_
        have hlo1 := lon_ext e1 hlo
        rcases then_ok h2 with ⟨tm2, s2, h3, h4⟩ | ⟨hne, h3⟩
        · refine cf _ _ _ _ _ h3 C ρ1 a1 w1 t1 o1 hlo1 _ fun ρ2 a2 w2 e2 t2 d2 f2 o2 => ?_
          refine ct _ _ _ _ _ h4 C ρ2 a2 w2 t2 o2 (lon_ext e2 hlo1) Q fun ρ3 a3 w3 e3 t3 d3 f3 o3 => ?_
          refine hQ ρ3 a3 w3 ((e1.trans e2).trans e3) t3 ((d3.trans d2).trans d1) (fun u hu => ?_) o3
          rw [f3 u (fun hh => hu (by simp [dsts, hh])), f2 u (fun hh => hu (by simp only [dsts, List.mem_append] at hh ⊢; rcases hh with hh | hh <;> simp [hh])), f1 u (fun hh => hu (by simp [dsts, hh]))]
        · refine cf _ _ _ _ _ h3 C ρ1 a1 w1 t1 o1 hlo1 _ fun ρ2 a2 w2 e2 t2 d2 f2 o2 => ?_
          have := hQ ρ2 a2 w2 (e1.trans e2) t2 (d2.trans d1) (fun u hu => by
            rw [f2 u (fun hh => hu (by simp only [dsts, List.mem_append] at hh ⊢; rcases hh with hh | hh <;> simp [hh])), f1 u (fun hh => hu (by simp [dsts, hh]))]) o2
          cases e with
          | normal => exact absurd rfl hne
          | exit m => exact this
          | ret => exact this
      · refine ca _ _ _ _ _ h1 C ρ act w htm hok hlo _ fun ρ1 a1 w1 e1 t1 d1 f1 o1 => ?_
        have := hQ ρ1 a1 w1 e1 t1 d1 (fun u hu => f1 u (fun hh => hu (by simp [dsts, hh]))) o1
        cases e with
        | normal => exact absurd rfl hne
        | exit m => exact this
        | ret => exact this
    · have h1 := code_ok (K := K) hE hS hm hn5 x fun u hu => hd u (by simp [dsts, hu])
      have h2 := gspine_ok hks hE hS hm hn5 y fun u hu => hd u (by simp [dsts, hu])
      exact (h1.seq h2) tm s e tm' s' hrun C ρ act w htm hok hlo Q hQ
  | .skip, hd => code_ok hE hS hm hn5 _ hd
  | .region .., hd => code_ok hE hS hm hn5 _ hd
  | .cond .., hd => code_ok hE hS hm hn5 _ hd
  | .block .., hd => code_ok hE hS hm hn5 _ hd
  | .loop .., hd => code_ok hE hS hm hn5 _ hd
  | .exit .., hd => code_ok hE hS hm hn5 _ hd
  | .ret, hd => code_ok hE hS hm hn5 _ hd
  | .scope .., hd => code_ok hE hS hm hn5 _ hd
  | .label .., hd => code_ok hE hS hm hn5 _ hd
  | .rangeFunc .., hd => code_ok hE hS hm hn5 _ hd
  | .goto .., hd => code_ok hE hS hm hn5 _ hd
  | .refuse .., hd => code_ok hE hS hm hn5 _ hd

theorem funcG_ok {fk : Fk} (hks : FkOk P K fk) (hE : EnvOk P E) (hN : NmOk E) (hS : ∀ o : Oper, Sound P K o (opB E o)) (hm : P.follows .mixedOrders = true) (f : Nat) : CallOk P f ((funcG E fk f).run K) := by
  intro args s v s' hrun C ρ as w hargs hok
  cases hf : E.fs f with
  | none =>
    have : (funcG E fk f).run K args s = none := by unfold funcG; rw [hf]
    rw [this] at hrun; cases hrun
  | some fn =>
  cases hb : fn.body with
  | none =>
    have : (funcG E fk f).run K args s = none := by unfold funcG; rw [hf]; dsimp only; rw [hb]
    rw [this] at hrun; cases hrun
  | some c =>
  have hrun' : (match Nat.ble fn.ntmps 512 && (allLt fn.ntmps (dsts c) && rvLt fn.results.toList) with
    | true => (match Nat.ble (lenV args) fn.ntmps && Nat.ble s.lo s.next with
      | true => match (gspineB E fk c).run K (putArgs args 0 Tm.undef) s with
        | .ok e tm s => match e with
          | .exit _ => none
          | _ => match (resB E fn.results.toList).run tm s with
            | some r => some (oneS r, s)
            | none => none
        | .no => none
      | false => none)
    | false => none) = some (v, s') := by
    unfold funcG at hrun
    rw [hf] at hrun
    dsimp only at hrun
    rw [hb] at hrun
    dsimp only at hrun
    cases hc : Nat.ble fn.ntmps 512 && (allLt fn.ntmps (dsts c) && rvLt fn.results.toList) with
    | false => rw [hc] at hrun; cases hrun
    | true =>
      rw [hc] at hrun
      dsimp only at hrun ⊢
      generalize gspineB E fk c = cb at hrun ⊢
      generalize resB E fn.results.toList = rb at hrun ⊢
      obtain ⟨cb⟩ := cb
      obtain ⟨rb⟩ := rb
      exact hrun
  have hPf := hE.fs f fn hf
  refine .inr ⟨?_, ?_⟩
  · have hnm := hN f fn hf
    simp only [callFunc]
    rw [Sem.run_bind]
    show (Sem.run P (match P.funcs[f]? with | none => _ | some fn => _) w) = _
    rw [hPf]
    dsimp only
    rw [hnm]
    simp [hb]
  · refine calls_of_wp hPf hb ?_
    split at hrun'
    · rename_i hc
      simp only [Bool.and_eq_true] at hc
      have hn5 := Nat.le_of_ble_eq_true hc.1
      have hd := allLt_ok hc.2.1
      have hrv := rvs_ok hc.2.2
      split at hrun'
      · rename_i hl
        simp only [Bool.and_eq_true] at hl
        have hl1 := Nat.le_of_ble_eq_true hl.1
        rw [lenV_eq] at hl1
        have hl2 := Nat.le_of_ble_eq_true hl.2
        split at hrun'
        · rename_i e tm s1 hcode
          have main : ∀ (r : List SV), (resB E fn.results.toList).run tm s1 = some r → v = oneS r → s' = s1 → ∀ ρ' a' w', Ext s s1 ρ ρ' → TmR ρ' fn.ntmps tm a' → a'.defers = [] → Ok C ρ' s1 w' →
              a'.defers = [] ∧ ∃ y, (results fn a'.tmps).run P w' = .ok y w' ∧ ∃ v' ρ'', Ending.returned y = .returned v' ∧ Ext s s' ρ ρ'' ∧ VR ρ'' v v' ∧ Ok C ρ'' s' w' := by
            rintro r hr rfl rfl ρ' a' w' x1 x2 x3 x5
            obtain ⟨vs, h1, h2⟩ := resB_ok (P := P) hE x2 x5 hrv hr
            have h3 : (results fn a'.tmps).run P w' = .ok (if h : (⟨vs⟩ : Array Value).size = 1 then (⟨vs⟩ : Array Value)[0] else .tuple ⟨vs⟩) w' := by
              show (do let vs ← fn.results.mapM (rvSem a'.tmps); pure (if h : vs.size = 1 then vs[0] else .tuple vs)).run P w' = _
              rw [Sem.run_bind, Array.mapM_eq_mapM_toList, Sem.run_map, h1]
              rfl
            refine ⟨x3, _, h3, _, ρ', rfl, x1, ?_, x5⟩
            match r, vs, h2 with
            | [], vs, h2 =>
              rw [VRL.nil_iff.1 h2]
              exact VR.tup_iff.2 ⟨[], rfl, .nil⟩
            | [x], vs, h2 =>
              obtain ⟨u, rfl, hu⟩ := h2.one
              exact hu
            | x :: y :: r, vs, h2 =>
              have hl := h2.length
              rw [dif_neg (by simp at hl ⊢; omega)]
              exact VR.tup_iff.2 ⟨vs, rfl, h2⟩
          refine gspine_ok hks hE hS hm hn5 c hd _ _ _ _ _ hcode C ρ _ w (tmR_args hargs hl1 hn5) hok hl2 _ fun ρ' a' w' x1 x2 x3 x4 x5 => ?_
          cases e with
          | exit k => cases hrun'
          | normal =>
            dsimp only at hrun'
            split at hrun'
            · rename_i r hr
              cases hrun'
              exact main r hr rfl rfl ρ' a' w' x1 x2 x3 x5
            · cases hrun'
          | ret =>
            dsimp only at hrun'
            split at hrun'
            · rename_i r hr
              cases hrun'
              exact main r hr rfl rfl ρ' a' w' x1 x2 x3 x5
            · cases hrun'
        · cases hrun'
      · cases hrun'
    · cases hrun'


noncomputable def fkB (ks : List Nat) (slot : Option Nat) : Fk := fun pl b af id t d e ds => forkB pl b af id t d e ds ks slot
noncomputable def fkD (k : Nat) : Fk := fun pl b af id t d e ds => forkD pl b af id t d e ds k
theorem fkB_ok {ks : List Nat} {slot : Option Nat} (hks : ∀ u ∈ ks, u < 512) : FkOk P K (fkB ks slot) := fun h1 h2 h3 h4 h5 h6 => forkB_ok h1 h2 h3 h4 h5 h6 hks
theorem fkD_ok {k : Nat} (hk : k < 512) : FkOk P K (fkD k) := fun h1 h2 h3 h4 h5 h6 => forkD_ok h1 h2 h3 h4 h5 h6 hk

end
end Go.Exe
