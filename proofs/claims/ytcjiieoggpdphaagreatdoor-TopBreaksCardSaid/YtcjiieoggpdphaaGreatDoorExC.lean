/- The executor: that regions, code and calls are followed rightly. No condition. -/
import Derived.Test.YtcjiieoggpdphaaGreatDoorExB
import Derived.Scope
namespace Go.Exe
open Go
section
variable {P : Program} {K : CallF} {E : Env}

theorem bit_eq (m j : Nat) : bit m j = m.testBit j := by
  rw [Nat.testBit_eq_decide_div_mod_eq]
  show Nat.beq (m / 2 ^ j % 2) 1 = _
  rw [Bool.eq_iff_iff]; simp [Nat.beq_eq]
theorem bit_lor (a b j : Nat) : bit (Nat.lor a b) j = (bit a j || bit b j) := by
  rw [bit_eq, bit_eq, bit_eq]; exact Nat.testBit_or a b j
theorem bit_pow (a j : Nat) : bit (Nat.pow 2 a) j = decide (a = j) := by
  rw [bit_eq]; exact Nat.testBit_two_pow
theorem bit_zero (j : Nat) : bit 0 j = false := by rw [bit_eq]; simp
theorem bit_sub {a b j : Nat} (h : Nat.land a b = a) (hj : bit a j = true) : bit b j = true := by
  rw [bit_eq] at hj ⊢
  have : (a &&& b).testBit j = true := by
    have h' : a &&& b = a := h
    rw [h']; exact hj
  rw [Nat.testBit_and] at this
  simp only [Bool.and_eq_true] at this
  exact this.2
theorem bit_disj {a b j : Nat} (h : Nat.land a b = 0) (hj : bit a j = true) : bit b j = false := by
  rw [bit_eq] at hj ⊢
  have h' : a &&& b = 0 := h
  have : (a &&& b).testBit j = false := by rw [h']; simp
  rw [Nat.testBit_and, hj] at this
  simpa using this

theorem nthN_get : ∀ (l : List Nat) (n : Nat), nthN l n = l.getD n 0
  | [], n => by simp [nthN]
  | x :: l, 0 => by simp [nthN]
  | x :: l, n + 1 => by simp [nthN, nthN_get l n]

theorem maskOf_dir (acc : List Nat) : ∀ (l : List Edge) (e : Edge), e ∈ l → Region.binds .any e = true → bit (maskOf acc l) e.on = true
  | [], e, he, hb => by simp at he
  | x :: l, e, he, hb => by
    unfold maskOf
    rcases List.mem_cons.1 he with rfl | he
    · rw [hb]
      simp only [bit_lor, bit_pow, decide_true, Bool.true_or]
    · have ih := maskOf_dir acc l e he hb
      split
      · simp only [bit_lor, ih, Bool.or_true]
      · exact ih
theorem maskOf_inv (acc : List Nat) : ∀ (l : List Edge) (j : Nat), bit (maskOf acc l) j = true → ∃ e ∈ l, Region.binds .any e = true ∧ (e.on = j ∨ bit (nthN acc e.on) j = true)
  | [], j, h => by simp [maskOf, bit_zero] at h
  | x :: l, j, h => by
    unfold maskOf at h
    split at h
    · rename_i hb
      simp only [bit_lor, bit_pow, Bool.or_eq_true, decide_eq_true_eq] at h
      rcases h with (h | h) | h
      · exact ⟨x, by simp, hb, .inl h⟩
      · exact ⟨x, by simp, hb, .inr h⟩
      · obtain ⟨e, he, r⟩ := maskOf_inv acc l j h
        exact ⟨e, by simp [he], r⟩
    · obtain ⟨e, he, r⟩ := maskOf_inv acc l j h
      exact ⟨e, by simp [he], r⟩

theorem tmpMask_bit : ∀ (l : List Operand) (t : Nat), Operand.tmp t ∈ l → bit (tmpMask l) t = true
  | [], t, h => by simp at h
  | x :: l, t, h => by
    unfold tmpMask
    rcases List.mem_cons.1 h with h | h
    · subst h; simp only [bit_lor, bit_pow, decide_true, Bool.true_or]
    · have ih := tmpMask_bit l t h
      split
      · simp only [bit_lor, ih, Bool.or_true]
      · exact ih

/-- what an operation looks at -/
def Looks (d : DI) (t : Nat) : Prop := Operand.tmp t ∈ d.o.op.operands.toList ∨ ∃ b, d.gd = some (t, b)

/-- what is told of an operation -/
structure WfD (all : Array Oper) (I : List DI) (d : DI) : Prop where
  at_ : all[d.idx]? = some d.o
  dm : d.dm = dstMask d.o.dst
  lm : d.lm = Nat.lor (tmpMask d.o.op.operands.toList) (gdMask d.gd)
  gd : d.gd = guardOf all.toList d.o.guard
  ok : d.ok = true → d.gd = none → d.o.guard = none
  dir : ∀ e ∈ d.o.after.toList, Region.binds .any e = true → bit d.mask e.on = true
  inv : ∀ j, bit d.mask j = true → ∃ e ∈ d.o.after.toList, Region.binds .any e = true ∧ (e.on = j ∨ ∃ q ∈ I, q.idx = e.on ∧ bit q.mask j = true)

theorem infosGo_ok (all : Array Oper) (I : List DI) : ∀ (l : List Oper) (i : Nat) (acc : List Nat), (∀ j, l[j]? = all[i + j]?) → acc.length = i → (∀ j m, acc[j]? = some m → ∃ q ∈ I, q.idx = j ∧ q.mask = m) →
    (∀ d ∈ infosGo all.toList l i acc, d ∈ I) → ∀ d ∈ infosGo all.toList l i acc, WfD all I d
  | [], _, _, _, _, _, _, d, hd => by simp [infosGo] at hd
  | o :: l, i, acc, hl, hlen, hacc, hI, d, hd => by
    have h0 : all[i]? = some o := by simpa using (hl 0).symm
    unfold infosGo at hd hI
    rcases List.mem_cons.1 hd with rfl | hd
    · refine ⟨h0, rfl, rfl, rfl, ?_, ?_, ?_⟩
      · intro hok hg
        unfold mkDI at hok hg
        dsimp only at hok hg
        cases hgo : o.guard with
        | none => exact hgo
        | some g => rw [hgo] at hok hg; rw [hg] at hok; cases hok
      · intro e he hb
        exact maskOf_dir acc _ e he hb
      · intro j hj
        obtain ⟨e, he, hb, h⟩ := maskOf_inv acc _ j hj
        refine ⟨e, he, hb, h.imp id fun h => ?_⟩
        rw [nthN_get] at h
        cases hm : acc[e.on]? with
        | none => simp [List.getD, hm, bit_zero] at h
        | some m =>
          simp [List.getD, hm] at h
          obtain ⟨q, hq, e1, e2⟩ := hacc _ m hm
          exact ⟨q, hq, e1, by rw [e2]; exact h⟩
    · refine infosGo_ok all I l (i + 1) (acc ++ [maskOf acc o.after.toList]) (fun j => by have := hl (j + 1); simpa [Nat.add_assoc, Nat.add_comm 1 j] using this) (by simp [hlen]) ?_
        (fun d hd => hI d (List.mem_cons_of_mem _ hd)) d hd
      intro j m hm
      rw [List.getElem?_append] at hm
      split at hm
      · exact hacc j m hm
      · rename_i hj
        have hj0 : j - acc.length = 0 := by
          rcases Nat.eq_zero_or_pos (j - acc.length) with h | h
          · exact h
          · rw [List.getElem?_eq_none (by simp; omega)] at hm; cases hm
        rw [hj0] at hm
        cases hm
        exact ⟨mkDI all.toList i (maskOf acc o.after.toList) o, hI _ List.mem_cons_self, by show i = j; omega, rfl⟩

theorem infos_ok (all : Array Oper) : ∀ d ∈ infos all.toList, WfD all (infos all.toList) d :=
  infosGo_ok all _ all.toList 0 [] (fun j => by simp) rfl (fun j m h => by simp at h) (fun d h => h)

theorem infosGo_idx (all : List Oper) : ∀ (l : List Oper) (i : Nat) (acc : List Nat), ∀ d ∈ infosGo all l i acc, i ≤ d.idx
  | [], i, acc, d, hd => by simp [infosGo] at hd
  | o :: l, i, acc, d, hd => by
    unfold infosGo at hd
    rcases List.mem_cons.1 hd with rfl | hd
    · exact Nat.le_refl _
    · exact Nat.le_of_succ_le (infosGo_idx all l (i + 1) _ d hd)
theorem infosGo_uniq (all : List Oper) : ∀ (l : List Oper) (i : Nat) (acc : List Nat), ∀ d ∈ infosGo all l i acc, ∀ q ∈ infosGo all l i acc, d.idx = q.idx → d = q
  | [], i, acc, d, hd, q, hq, h => by simp [infosGo] at hd
  | o :: l, i, acc, d, hd, q, hq, h => by
    unfold infosGo at hd hq
    rcases List.mem_cons.1 hd with e1 | hd <;> rcases List.mem_cons.1 hq with e2 | hq
    · rw [e1, e2]
    · have := infosGo_idx all l (i + 1) _ q hq
      rw [e1] at h
      have h : i = q.idx := h
      omega
    · have := infosGo_idx all l (i + 1) _ d hd
      rw [e2] at h
      have h : d.idx = i := h
      omega
    · exact infosGo_uniq all l (i + 1) _ d hd q hq h

theorem pickD_mem (done : Nat) (eff : Bool) : ∀ (l : List DI) (d : DI) (r : List DI), pickD E done eff l = some (d, r) → d ∈ l ∧ ∀ x ∈ r, x ∈ l
  | [], d, r, h => by simp [pickD] at h
  | y :: l, d, r, h => by
    unfold pickD at h
    split at h
    · cases h; exact ⟨by simp, fun x hx => by simp [hx]⟩
    · split at h
      · rename_i x r' hr
        cases h
        obtain ⟨h1, h2⟩ := pickD_mem done eff l _ _ hr
        refine ⟨by simp [h1], fun x hx => ?_⟩
        rcases List.mem_cons.1 hx with rfl | hx
        · simp
        · simp [h2 x hx]
      · cases h
theorem orderD_mem : ∀ (n done : Nat) (l : List DI), ∀ d ∈ orderD E n done l, d ∈ l
  | 0, _, _, d, h => by simp [orderD] at h
  | n + 1, done, l, d, h => by
    unfold orderD at h
    split at h
    · rename_i x r hp
      obtain ⟨h1, h2⟩ := pickD_mem _ _ _ _ _ hp
      rcases List.mem_cons.1 h with rfl | h
      · exact h1
      · exact h2 d (orderD_mem n _ r d h)
    · split at h
      · rename_i x r hp
        obtain ⟨h1, h2⟩ := pickD_mem _ _ _ _ _ hp
        rcases List.mem_cons.1 h with rfl | h
        · exact h1
        · exact h2 d (orderD_mem n _ r d h)
      · simp at h

/-- an operation against those ahead of it -/
structure Good (E : Env) (d : DI) (prev : List DI) : Prop where
  ok : d.ok = true
  new : ∀ p ∈ prev, p.idx ≠ d.idx
  ahead : ∀ j, bit d.mask j = true → ∃ p ∈ prev, p.idx = j
  apart : ∀ p ∈ prev, bit d.mask p.idx = true ∨ (isEff (opB E p.o) = false ∧ apartD p d = true)
def GoodL (E : Env) : List DI → Prop
  | [] => True
  | d :: l => Good E d l ∧ GoodL E l

theorem goodB_ok {d : DI} : ∀ {prev : List DI}, goodB E d prev = true → ∀ p ∈ prev, bit d.mask p.idx = true ∨ (isEff (opB E p.o) = false ∧ apartD p d = true)
  | [], h, p, hp => by simp at hp
  | q :: prev, h, p, hp => by
    unfold goodB at h
    split at h
    · rename_i hb
      rcases List.mem_cons.1 hp with rfl | hp
      · simpa [Bool.or_eq_true, Bool.and_eq_true] using hb
      · exact goodB_ok h p hp
    · cases h
theorem okD_ok {n : Nat} : ∀ (l : List DI) (done : Nat) (prev : List DI), okD E n l done prev = true → (∀ j, bit done j = true ↔ ∃ p ∈ prev, p.idx = j) → GoodL E prev →
    GoodL E (l.reverse ++ prev) ∧ ∀ j, j < n → ∃ p ∈ l.reverse ++ prev, p.idx = j
  | [], done, prev, h, hdone, hg => by
    refine ⟨hg, fun j hj => ?_⟩
    have h : done + 1 = 2 ^ n := Nat.eq_of_beq_eq_true h
    have : done = 2 ^ n - 1 := by omega
    have hb : bit done j = true := by rw [bit_eq, this, Nat.testBit_two_pow_sub_one]; simpa using hj
    simpa using (hdone j).1 hb
  | d :: l, done, prev, h, hdone, hg => by
    unfold okD at h
    split at h
    · rename_i hb
      simp only [Bool.and_eq_true, Bool.not_eq_true'] at hb
      obtain ⟨h1, h2, h3, h4⟩ := hb
      have h3 := Nat.eq_of_beq_eq_true h3
      have hgood : Good E d prev := ⟨h1, fun p hp e => (by have := (hdone d.idx).2 ⟨p, hp, e⟩; rw [h2] at this; cases this), fun j hj => (hdone j).1 (bit_sub h3 hj), goodB_ok h4⟩
      have := okD_ok l _ (d :: prev) h (fun j => by
        rw [bit_lor, bit_pow, Bool.or_eq_true, hdone j, decide_eq_true_eq]
        constructor
        · rintro (⟨p, hp, e⟩ | e)
          · exact ⟨p, by simp [hp], e⟩
          · exact ⟨d, by simp, e⟩
        · rintro ⟨p, hp, e⟩
          rcases List.mem_cons.1 hp with rfl | hp
          · exact .inr e
          · exact .inl ⟨p, hp, e⟩) ⟨hgood, hg⟩
      simpa [List.reverse_cons, List.append_assoc] using this
    · cases h

theorem apartD_ok {all : Array Oper} {I : List DI} {p d : DI} (hp : WfD all I p) (hd : WfD all I d) (h : apartD p d = true) :
    (∀ t, p.o.dst = some t → ¬ Looks d t ∧ d.o.dst ≠ some t) ∧ (∀ t, d.o.dst = some t → ¬ Looks p t) := by
  unfold apartD at h
  simp only [Bool.and_eq_true] at h
  have h1 := Nat.eq_of_beq_eq_true h.1
  have h2 := Nat.eq_of_beq_eq_true h.2
  have look : ∀ {q : DI}, WfD all I q → ∀ t, Looks q t → bit q.lm t = true := by
    intro q hq t ht
    rw [hq.lm, bit_lor]
    rcases ht with ht | ⟨b, ht⟩
    · rw [tmpMask_bit _ _ ht]; rfl
    · rw [ht]
      simp only [gdMask, bit_pow, decide_true, Bool.or_true]
  refine ⟨fun t ht => ?_, fun t ht hl => ?_⟩
  · have hb : bit p.dm t = true := by rw [hp.dm, ht]; simp only [dstMask, bit_pow, decide_true]
    have hn := bit_disj h1 hb
    rw [bit_lor] at hn
    simp only [Bool.or_eq_false_iff] at hn
    refine ⟨fun hl => ?_, fun hd' => ?_⟩
    · rw [look hd t hl] at hn; cases hn.1
    · have : bit d.dm t = true := by rw [hd.dm, hd']; simp only [dstMask, bit_pow, decide_true]
      rw [this] at hn; cases hn.2
  · have hb : bit d.dm t = true := by rw [hd.dm, ht]; simp only [dstMask, bit_pow, decide_true]
    have hn := bit_disj h2 hb
    rw [look hp t hl] at hn; cases hn

/-! ### The executor's look again -/
theorem sameF_eq {f g : Fn} (h : sameF f g = true) : f = g := by
  unfold sameF at h
  split at h
  · rw [Nat.eq_of_beq_eq_true h]
  · cases h
mutual
theorem same_eq : ∀ (a b : SV), same a b = true → a = b
  | .int k a, b, h => by
    cases b <;> simp only [same, Bool.and_eq_true] at h <;> first | (cases h; done) | skip
    rw [eqK_iff h.1]; rw [eqI_eq] at h; simp at h; rw [h.2]
  | .bool a, b, h => by cases b <;> simp only [same] at h <;> first | (cases h; done) | (simp at h; rw [h])
  | .str a, b, h => by cases b <;> simp only [same] at h <;> first | (cases h; done) | (rw [eqL_iff] at h; rw [h])
  | .nilp, b, h => by cases b <;> simp only [same] at h <;> first | (cases h; done) | rfl
  | .ptr a c, b, h => by
    cases b <;> simp only [same, Bool.and_eq_true] at h <;> first | (cases h; done) | skip
    rw [Nat.eq_of_beq_eq_true h.1, Nat.eq_of_beq_eq_true h.2]
  | .nils, b, h => by cases b <;> simp only [same] at h <;> first | (cases h; done) | rfl
  | .sl a c d e, b, h => by
    cases b <;> simp only [same, Bool.and_eq_true] at h <;> first | (cases h; done) | skip
    rw [Nat.eq_of_beq_eq_true h.1, Nat.eq_of_beq_eq_true h.2.1, Nat.eq_of_beq_eq_true h.2.2.1, Nat.eq_of_beq_eq_true h.2.2.2]
  | .sx a c d e, b, h => by
    cases b <;> simp only [same, Bool.and_eq_true] at h <;> first | (cases h; done) | skip
    rw [Nat.eq_of_beq_eq_true h.1, Nat.eq_of_beq_eq_true h.2.1, Nat.eq_of_beq_eq_true h.2.2.1, Nat.eq_of_beq_eq_true h.2.2.2]
  | .nilm, b, h => by cases b <;> simp only [same] at h <;> first | (cases h; done) | rfl
  | .mp a, b, h => by cases b <;> simp only [same] at h <;> first | (cases h; done) | (rw [Nat.eq_of_beq_eq_true h])
  | .fn f a c, b, h => by
    cases b <;> simp only [same, Bool.and_eq_true] at h <;> first | (cases h; done) | skip
    rw [sameF_eq h.1, sames_eq _ _ h.2.1, sames_eq _ _ h.2.2]
  | .nilf, b, h => by cases b <;> simp only [same] at h <;> first | (cases h; done) | rfl
  | .iface t a, b, h => by
    cases b <;> simp only [same, Bool.and_eq_true] at h <;> first | (cases h; done) | skip
    rw [Nat.eq_of_beq_eq_true h.1, same_eq _ _ h.2]
  | .nili, b, h => by cases b <;> simp only [same] at h <;> first | (cases h; done) | rfl
  | .agg a, b, h => by cases b <;> simp only [same] at h <;> first | (cases h; done) | (rw [sames_eq _ _ h])
  | .tup a, b, h => by cases b <;> simp only [same] at h <;> first | (cases h; done) | (rw [sames_eq _ _ h])
  | .bad, b, h => by cases b <;> simp only [same] at h <;> first | (cases h; done) | rfl
theorem sames_eq : ∀ (a b : List SV), sames a b = true → a = b
  | [], b, h => by cases b <;> simp only [sames] at h <;> first | (cases h; done) | rfl
  | x :: a, b, h => by
    cases b <;> simp only [sames, Bool.and_eq_true] at h <;> first | (cases h; done) | skip
    rw [same_eq _ _ h.1, sames_eq _ _ h.2]
end
theorem isSame_eq {x : Option SV} {v : SV} (h : isSame x v = true) : x = some v := by
  unfold isSame at h
  split at h
  · rw [same_eq _ _ h]
  · cases h
theorem sameO_eq {x y : SO} (h : sameO x y = true) : x = y := by
  unfold sameO at h
  split at h
  · split at h
    · simp only [Bool.and_eq_true] at h
      rw [Nat.eq_of_beq_eq_true h.1, sames_eq _ _ h.2]
    · cases h
  · split at h
    · rw [Nat.eq_of_beq_eq_true h]
    · cases h
  · cases h

theorem chkAll_mem {s : ST} : ∀ {l : List PR}, chkAll s l = true → ∀ p ∈ l, p.chk s = true
  | [], h, p, hp => by simp at hp
  | q :: l, h, p, hp => by
    obtain ⟨i, f⟩ := q
    unfold chkAll at h
    dsimp only at h
    split at h
    · rename_i hf
      rcases List.mem_cons.1 hp with rfl | hp
      · exact hf
      · exact chkAll_mem h p hp
    · cases h
theorem dropPR_mem {m : Nat} : ∀ {l : List PR} {p : PR}, p ∈ l → bit m p.i = false → p ∈ dropPR m l
  | [], p, hp, hb => by simp at hp
  | q :: l, p, hp, hb => by
    unfold dropPR
    rcases List.mem_cons.1 hp with rfl | hp
    · rw [hb]; simp
    · have ih := dropPR_mem hp hb
      split
      · exact ih
      · simp [ih]

/-! ### A run of the steps, plainly -/
noncomputable def stepR (K : CallF) (op : OpB) (xs : List SV) (s : ST) (i m : Nat) (q : List PR) : Option (SV × ST × List PR) :=
  match op, xs with
  | .mv, [x] => some (x, s, q)
  | .pure1 f, [x] => match f x with
    | some v => some (v, s, q)
    | none => none
  | .pure2 f, [x, y] => match f x y with
    | some v => some (v, s, q)
    | none => none
  | .pure f, xs => match f xs with
    | some v => some (v, s, q)
    | none => none
  | .read1 f, [x] => match f x s with
    | some v => some (v, s, ⟨i, fun s => isSame (f x s) v⟩ :: q)
    | none => none
  | .read f, xs => match f xs s with
    | some v => some (v, s, ⟨i, fun s => isSame (f xs s) v⟩ :: q)
    | none => none
  | .mk f, xs => match f xs with
    | some (g, x) => match Nat.blt s.next 32768 with
      | true => some (g.f s.next, ⟨s.heap.set s.next x, Nat.succ s.next, s.lo, s.it⟩, ⟨i, fun t => sameO (t.heap.get s.next) x⟩ :: q)
      | false => none
    | none => none
  | .eff f, xs => match chkAll s q with
    | true => match f K xs s with
      | some (v, s) => some (v, s, dropPR m q)
      | none => none
    | false => none
  | _, _ => none

theorem stepD_run (op : OpB) (xs : List (Fun Tm SV)) (p : Fun SV (Tm → Tm)) (i m : Nat) (r : DBox) (tm : Tm) (s : ST) (q : List PR) :
    (stepD op xs p i m r).run K tm s q = match stepR K op (vals tm xs) s i m q with | some (v, s', q') => r.run K (p.f v tm) s' q' | none => none := by
  obtain ⟨p⟩ := p
  obtain ⟨r⟩ := r
  cases op with
  | mv => match xs with
    | [] => rfl
    | [⟨x⟩] => rfl
    | _ :: _ :: _ => rfl
  | pure1 f => match xs with
    | [] => rfl
    | [⟨x⟩] =>
      show (match f (x tm) with | some v => r K (p v tm) s q | none => none) = match (match f (x tm) with | some v => some (v, s, q) | none => none) with | some (v, s', q') => r K (p v tm) s' q' | none => none
      cases f (x tm) <;> rfl
    | _ :: _ :: _ => rfl
  | pure2 f => match xs with
    | [] => rfl
    | [_] => rfl
    | [⟨x⟩, ⟨y⟩] =>
      show (match f (x tm) (y tm) with | some v => r K (p v tm) s q | none => none) = match (match f (x tm) (y tm) with | some v => some (v, s, q) | none => none) with | some (v, s', q') => r K (p v tm) s' q' | none => none
      cases f (x tm) (y tm) <;> rfl
    | _ :: _ :: _ :: _ => rfl
  | pure f =>
    show (match f (vals tm xs) with | some v => r K (p v tm) s q | none => none) = match (match f (vals tm xs) with | some v => some (v, s, q) | none => none) with | some (v, s', q') => r K (p v tm) s' q' | none => none
    cases f (vals tm xs) <;> rfl
  | read1 f => match xs with
    | [] => rfl
    | [⟨x⟩] =>
      show (match f (x tm) s with | some v => r K (p v tm) s (⟨i, fun s => isSame (f (x tm) s) v⟩ :: q) | none => none) =
        match (match f (x tm) s with | some v => some (v, s, (⟨i, fun s => isSame (f (x tm) s) v⟩ : PR) :: q) | none => none) with | some (v, s', q') => r K (p v tm) s' q' | none => none
      cases f (x tm) s <;> rfl
    | _ :: _ :: _ => rfl
  | read f =>
    show (match f (vals tm xs) s with | some v => r K (p v tm) s (⟨i, fun s => isSame (f (vals tm xs) s) v⟩ :: q) | none => none) =
      match (match f (vals tm xs) s with | some v => some (v, s, (⟨i, fun s => isSame (f (vals tm xs) s) v⟩ : PR) :: q) | none => none) with | some (v, s', q') => r K (p v tm) s' q' | none => none
    cases f (vals tm xs) s <;> rfl
  | mk f =>
    show (match f (vals tm xs) with
      | some (⟨g⟩, x) => match Nat.blt s.next 32768 with
        | true => r K (p (g s.next) tm) ⟨s.heap.set s.next x, Nat.succ s.next, s.lo, s.it⟩ (⟨i, fun t => sameO (t.heap.get s.next) x⟩ :: q)
        | false => none
      | none => none) = match (match f (vals tm xs) with
        | some (g, x) => match Nat.blt s.next 32768 with
          | true => some (g.f s.next, (⟨s.heap.set s.next x, Nat.succ s.next, s.lo, s.it⟩ : ST), (⟨i, fun t => sameO (t.heap.get s.next) x⟩ : PR) :: q)
          | false => none
        | none => none) with | some (v, s', q') => r K (p v tm) s' q' | none => none
    cases f (vals tm xs) with
    | none => rfl
    | some z =>
      obtain ⟨⟨g⟩, x⟩ := z
      dsimp only
      cases Nat.blt s.next 32768 <;> rfl
  | eff f =>
    show (match chkAll s q with
      | true => match f K (vals tm xs) s with
        | some (v, s) => r K (p v tm) s (dropPR m q)
        | none => none
      | false => none) = match (match chkAll s q with
        | true => match f K (vals tm xs) s with
          | some (v, s) => some (v, s, dropPR m q)
          | none => none
        | false => none) with | some (v, s', q') => r K (p v tm) s' q' | none => none
    cases chkAll s q with
    | false => rfl
    | true =>
      dsimp only
      cases f K (vals tm xs) s <;> rfl
  | no => rfl

theorem stepR_inv {op : OpB} {xs : List SV} {s s' : ST} {i m : Nat} {q q' : List PR} {v : SV} (h : stepR K op xs s i m q = some (v, s', q')) (hne : isEff op = false) :
    (s' = s ∧ ∃ F : ST → Option SV, (∀ t u, F t = some u → op.app K xs t = some (u, t)) ∧ (((∀ t, F t = some v) ∧ q' = q) ∨ q' = ⟨i, fun t => isSame (F t) v⟩ :: q)) ∨
    (∃ f g x, op = .mk f ∧ f xs = some (g, x) ∧ s.next < 32768 ∧ v = g.f s.next ∧ s' = ⟨s.heap.set s.next x, Nat.succ s.next, s.lo, s.it⟩ ∧ q' = ⟨i, fun t => sameO (t.heap.get s.next) x⟩ :: q) := by
  cases op with
  | mv => match xs, h with
    | [x], h => cases h; exact .inl ⟨rfl, fun _ => some v, fun t u hu => by cases hu; rfl, .inl ⟨fun _ => rfl, rfl⟩⟩
  | pure1 f => match xs, h with
    | [x], h =>
      unfold stepR at h
      dsimp only at h
      split at h
      · rename_i u hu
        cases h
        exact .inl ⟨rfl, fun _ => some v, fun t u' hu' => by cases hu'; simp [OpB.app, hu], .inl ⟨fun _ => rfl, rfl⟩⟩
      · cases h
  | pure2 f => match xs, h with
    | [x, y], h =>
      unfold stepR at h
      dsimp only at h
      split at h
      · rename_i u hu
        cases h
        exact .inl ⟨rfl, fun _ => some v, fun t u' hu' => by cases hu'; simp [OpB.app, hu], .inl ⟨fun _ => rfl, rfl⟩⟩
      · cases h
  | pure f =>
    unfold stepR at h
    dsimp only at h
    split at h
    · rename_i u hu
      cases h
      exact .inl ⟨rfl, fun _ => some v, fun t u' hu' => by cases hu'; simp [OpB.app, hu], .inl ⟨fun _ => rfl, rfl⟩⟩
    · cases h
  | read1 f => match xs, h with
    | [x], h =>
      unfold stepR at h
      dsimp only at h
      split at h
      · rename_i u hu
        cases h
        exact .inl ⟨rfl, fun t => f x t, fun t u' hu' => by simp [OpB.app, hu'], .inr rfl⟩
      · cases h
  | read f =>
    unfold stepR at h
    dsimp only at h
    split at h
    · rename_i u hu
      cases h
      exact .inl ⟨rfl, fun t => f xs t, fun t u' hu' => by simp [OpB.app, hu'], .inr rfl⟩
    · cases h
  | mk f =>
    unfold stepR at h
    dsimp only at h
    split at h
    · rename_i g x hu
      split at h
      · rename_i hb
        cases h
        exact .inr ⟨f, g, x, rfl, hu, by simpa [Nat.blt_eq] using hb, rfl, rfl, rfl⟩
      · cases h
    · cases h
  | eff f => cases hne
  | no => cases h
theorem stepR_eff {f : CallF → List SV → ST → Option (SV × ST)} {xs : List SV} {s s' : ST} {i m : Nat} {q q' : List PR} {v : SV} (h : stepR K (.eff f) xs s i m q = some (v, s', q')) : chkAll s q = true ∧ f K xs s = some (v, s') ∧ q' = dropPR m q := by
  unfold stepR at h
  dsimp only at h
  split at h
  · rename_i hc
    split at h
    · rename_i u t hu
      cases h
      exact ⟨hc, hu, rfl⟩
    · cases h
  · cases h

theorem guardD_run (g : Nat × Bool) (p : Fun SV (Tm → Tm)) (e : Bool) (m : Nat) (d r : DBox) (tm : Tm) (s : ST) (q : List PR) : (guardD g p e m d r).run K tm s q =
    match (getB g.1).f tm with
    | .bool c => match c == g.2 with
      | true => d.run K tm s q
      | false => match e with
        | true => match chkAll s q with
          | true => r.run K (p.f (.tup []) tm) s (dropPR m q)
          | false => none
        | false => r.run K (p.f (.tup []) tm) s q
    | .tup [] => match e with
      | true => match chkAll s q with
        | true => r.run K (p.f (.tup []) tm) s (dropPR m q)
        | false => none
      | false => r.run K (p.f (.tup []) tm) s q
    | _ => none := by
  unfold guardD
  dsimp only
  obtain ⟨p⟩ := p
  obtain ⟨d⟩ := d
  obtain ⟨r⟩ := r
  generalize getB g.1 = q'
  obtain ⟨q'⟩ := q'
  cases e <;> rfl

end
end Go.Exe
namespace Go.Exe
open Go

/-- an operation that the run has come to -/
structure Ev where
  d : DI
  V : SV
  xs : List SV
  num : Nat
  mkd : Bool

def tmL (li : Nat → Bool) (t0 : Nat → SV) : List Ev → Nat → SV
  | [], t => t0 t
  | e :: l, t => if li e.d.idx = true ∧ e.d.o.dst = some t then e.V else tmL li t0 l t

theorem tmL_cons (li : Nat → Bool) (t0 : Nat → SV) (e : Ev) (l : List Ev) (t : Nat) : tmL li t0 (e :: l) t = if li e.d.idx = true ∧ e.d.o.dst = some t then e.V else tmL li t0 l t := rfl

noncomputable def evT (tb : Nat → SV) : Operand → SV
  | .tmp t => if t < 512 then tb t else .bad
  | .const v => toSV v
  | .global _ => .bad
  | .func f => .fn (.func f) [] []

theorem vals_evT (tm : Tm) : ∀ l : List Operand, vals tm (evs l) = l.map (evT fun t => (getB t).f tm)
  | [] => rfl
  | x :: l => by
    show (evB x).f tm :: vals tm (evs l) = _
    rw [vals_evT tm l]
    congr 1
    cases x with
    | tmp t =>
      unfold evB evT
      dsimp only
      split
      · rename_i ht; rw [if_pos (by simpa [Nat.blt_eq] using ht)]
      · rename_i ht; rw [if_neg (by rw [← Nat.blt_eq, ht]; simp)]
    | _ => rfl
theorem map_evT_congr {tb tb' : Nat → SV} : ∀ {l : List Operand}, (∀ t, Operand.tmp t ∈ l → t < 512 → tb t = tb' t) → l.map (evT tb) = l.map (evT tb')
  | [], _ => rfl
  | x :: l, h => by
    rw [List.map_cons, List.map_cons, map_evT_congr (fun t ht => h t (by simp [ht]))]
    congr 1
    cases x with
    | tmp t => unfold evT; dsimp only; split <;> first | exact h t (by simp) (by assumption) | rfl
    | _ => rfl
theorem evT_ok {ρ : Ren} {tb : Nat → SV} {a : Act} : ∀ {l : List Operand}, (∀ t, Operand.tmp t ∈ l → t < 512 → VR ρ (tb t) (a.tmps.getD t undef)) → VRL ρ (l.map (evT tb)) (l.map a.eval)
  | [], _ => .nil
  | x :: l, h => by
    refine .cons ?_ (evT_ok fun t ht => h t (by simp [ht]))
    cases x with
    | tmp t => unfold evT; dsimp only; split <;> first | exact h t (by simp) (by assumption) | simp [VR]
    | const v => exact toSV_ok ρ v
    | global g => simp [evT, VR]
    | func f => exact VR.fn_iff.2 ⟨[], [], rfl, .nil, .nil⟩

/-- what is known of one that has not been done -/
def Pend (E : Env) (K : CallF) (t0 : Nat → SV) (s0 : ST) (e : Ev) (l : List Ev) (pr : List PR) (s : ST) (ρ : Ren) : Prop :=
  (e.mkd = false ∧ e.V = .tup [] ∧ ∃ t b, e.d.gd = some (t, b) ∧ (tmL (fun _ => true) t0 l t = .tup [] ∨ tmL (fun _ => true) t0 l t = .bool (!b))) ∨
  ((e.d.gd = none ∨ ∃ t b, e.d.gd = some (t, b) ∧ tmL (fun _ => true) t0 l t = .bool b) ∧ e.xs = e.d.o.op.operands.toList.map (evT (tmL (fun _ => true) t0 l)) ∧
    ((e.mkd = false ∧ ∃ F : ST → Option SV, (∀ s v, F s = some v → (opB E e.d.o).app K e.xs s = some (v, s)) ∧ ((∀ s, F s = some e.V) ∨ (⟨e.d.idx, fun s => isSame (F s) e.V⟩ : PR) ∈ pr)) ∨
     (e.mkd = true ∧ ∃ f g x, opB E e.d.o = .mk f ∧ f e.xs = some (g, x) ∧ e.V = g.f e.num ∧ e.num < s.next ∧ s0.next ≤ e.num ∧ ρ e.num = none ∧ (⟨e.d.idx, fun t => sameO (t.heap.get e.num) x⟩ : PR) ∈ pr)))

theorem Pend.mono {E : Env} {K : CallF} {t0 : Nat → SV} {s0 : ST} {e : Ev} {l : List Ev} {pr pr' : List PR} {s s' : ST} {ρ ρ' : Ren} (h : Pend E K t0 s0 e l pr s ρ) (hpr : ∀ p ∈ pr, p.i = e.d.idx → p ∈ pr') (hs : s.next ≤ s'.next)
    (hρ : e.mkd = true → e.num < s.next → ρ e.num = none → ρ' e.num = none) : Pend E K t0 s0 e l pr' s' ρ' := by
  rcases h with h | ⟨h1, h2, h3⟩
  · exact .inl h
  · refine .inr ⟨h1, h2, ?_⟩
    rcases h3 with ⟨h4, F, h5, h6⟩ | ⟨h4, f, g, x, h5, h6, h7, h8, h9, h10, h11⟩
    · exact .inl ⟨h4, F, h5, h6.imp id fun h => hpr _ h rfl⟩
    · exact .inr ⟨h4, f, g, x, h5, h6, h7, Nat.lt_of_lt_of_le h8 hs, h9, hρ h4 h8 h10, hpr _ h11 rfl⟩

def PE (E : Env) (K : CallF) (t0 : Nat → SV) (s0 : ST) (li : Nat → Bool) (pr : List PR) (s : ST) (ρ : Ren) : List Ev → Prop
  | [] => True
  | e :: l => (li e.d.idx = false → Pend E K t0 s0 e l pr s ρ) ∧ (li e.d.idx = true → ∀ j, bit e.d.mask j = true → li j = true) ∧ (isEff (opB E e.d.o) = true → li e.d.idx = true) ∧ (∀ p ∈ l, p.mkd = true → p.num < e.num) ∧ PE E K t0 s0 li pr s ρ l

section
variable {P : Program} {K : CallF} {E : Env} {t0 : Nat → SV} {s0 : ST}

theorem GoodL.head {d : DI} {l : List DI} (h : GoodL E (d :: l)) : Good E d l := h.1
theorem GoodL.tail : ∀ {l1 l2 : List DI}, GoodL E (l1 ++ l2) → GoodL E l2
  | [], _, h => h
  | _ :: l1, _, h => GoodL.tail (l1 := l1) h.2

theorem tmL_agree {li : Nat → Bool} {t : Nat} : ∀ {l : List Ev}, (∀ p ∈ l, p.d.o.dst = some t → li p.d.idx = true) → tmL li t0 l t = tmL (fun _ => true) t0 l t
  | [], _ => rfl
  | e :: l, h => by
    have ih := tmL_agree (l := l) fun p hp => h p (by simp [hp])
    rw [tmL_cons, tmL_cons]
    by_cases hd : e.d.o.dst = some t
    · rw [if_pos ⟨h e (by simp) hd, hd⟩, if_pos ⟨rfl, hd⟩]
    · rw [if_neg (fun hh => hd hh.2), if_neg (fun hh => hd hh.2), ih]

/-- one that comes next reads what it should -/
theorem tmL_next {all : Array Oper} {I : List DI} {li : Nat → Bool} {d : DI} {l : List Ev} (hg : Good E d (l.map (·.d))) (hw : WfD all I d) (hws : ∀ p ∈ l, WfD all I p.d) (hm : ∀ j, bit d.mask j = true → li j = true) {t : Nat} (ht : Looks d t) :
    tmL li t0 l t = tmL (fun _ => true) t0 l t := by
  refine tmL_agree fun p hp hd => ?_
  rcases hg.apart p.d (List.mem_map.2 ⟨p, hp, rfl⟩) with hb | ⟨_, hap⟩
  · exact hm _ hb
  · exact absurd ht ((apartD_ok (hws p hp) hw hap).1 t hd).1

/-- one that waits reads what it should -/
theorem tmL_wait {all : Array Oper} {I : List DI} {li : Nat → Bool} {e : Ev} {l : List Ev} : ∀ {pre : List Ev}, GoodL E ((pre ++ e :: l).map (·.d)) → (∀ p ∈ pre ++ e :: l, WfD all I p.d) →
    (∀ p ∈ pre, li p.d.idx = true → ∀ j, bit p.d.mask j = true → li j = true) → li e.d.idx = false → (∀ j, bit e.d.mask j = true → li j = true) → ∀ {t : Nat}, Looks e.d t → tmL li t0 (pre ++ e :: l) t = tmL (fun _ => true) t0 l t
  | [], hg, hws, _, hli, hm, t, ht => by
    show tmL li t0 (e :: l) t = _
    rw [tmL_cons]
    rw [if_neg (fun hh => by rw [hli] at hh; cases hh.1)]
    exact tmL_next hg.1 (hws e (by simp)) (fun p hp => hws p (by simp [hp])) hm ht
  | a :: pre, hg, hws, hcl, hli, hm, t, ht => by
    have ih := tmL_wait (pre := pre) hg.2 (fun p hp => hws p (by simp at hp ⊢; exact .inr hp)) (fun p hp => hcl p (by simp [hp])) hli hm ht
    show tmL li t0 (a :: (pre ++ e :: l)) t = _
    rw [tmL_cons]
    rw [if_neg, ih]
    rintro ⟨h1, h2⟩
    have he : e.d ∈ (pre ++ e :: l).map (·.d) := List.mem_map.2 ⟨e, by simp, rfl⟩
    rcases hg.1.apart e.d he with hb | ⟨_, hap⟩
    · have := hcl a (by simp) h1 _ hb
      rw [hli] at this; cases this
    · exact (apartD_ok (hws e (by simp)) (hws a (by simp)) hap).2 t h2 ht

/-- one that waited has been done -/
theorem tmL_done {all : Array Oper} {I : List DI} {li li' : Nat → Bool} {e : Ev} {l : List Ev} (hli' : ∀ j, j ≠ e.d.idx → li' j = li j) (hli1 : li' e.d.idx = true) : ∀ {pre : List Ev}, GoodL E ((pre ++ e :: l).map (·.d)) → (∀ p ∈ pre ++ e :: l, WfD all I p.d) →
    (∀ p ∈ pre, li p.d.idx = true → ∀ j, bit p.d.mask j = true → li j = true) → li e.d.idx = false → ∀ t, tmL li' t0 (pre ++ e :: l) t = if e.d.o.dst = some t then e.V else tmL li t0 (pre ++ e :: l) t
  | [], hg, hws, _, hli, t => by
    have hsame : ∀ {q : List Ev}, (∀ p ∈ q, p.d.idx ≠ e.d.idx) → tmL li' t0 q t = tmL li t0 q t := by
      intro q
      induction q with
      | nil => intro _; rfl
      | cons p q ih =>
        intro h
        rw [tmL_cons, tmL_cons]
        rw [hli' _ (h p (by simp)), ih fun p hp => h p (by simp [hp])]
    show tmL li' t0 (e :: l) t = _
    have h1 : tmL li t0 ([] ++ e :: l) t = tmL li t0 l t := by
      show tmL li t0 (e :: l) t = _
      rw [tmL_cons]
      rw [if_neg (fun hh => by rw [hli] at hh; cases hh.1)]
    rw [h1]
    rw [tmL_cons]
    by_cases hd : e.d.o.dst = some t
    · rw [if_pos ⟨hli1, hd⟩, if_pos hd]
    · rw [if_neg (fun hh => hd hh.2), if_neg hd]
      exact hsame fun p hp => hg.1.new p.d (List.mem_map.2 ⟨p, hp, rfl⟩)
  | a :: pre, hg, hws, hcl, hli, t => by
    have ih := tmL_done (pre := pre) hli' hli1 hg.2 (fun p hp => hws p (by simp at hp ⊢; exact .inr hp)) (fun p hp => hcl p (by simp [hp])) hli t
    have he : e.d ∈ (pre ++ e :: l).map (·.d) := List.mem_map.2 ⟨e, by simp, rfl⟩
    have hne : a.d.idx ≠ e.d.idx := fun h => hg.1.new e.d he h.symm
    show tmL li' t0 (a :: (pre ++ e :: l)) t = if e.d.o.dst = some t then e.V else tmL li t0 (a :: (pre ++ e :: l)) t
    rw [tmL_cons, tmL_cons]
    rw [hli' _ hne]
    by_cases hc : li a.d.idx = true ∧ a.d.o.dst = some t
    · rw [if_pos hc, if_pos hc, if_neg]
      intro hd
      rcases hg.1.apart e.d he with hb | ⟨_, hap⟩
      · have := hcl a (by simp) hc.1 _ hb
        rw [hli] at this; cases this
      · exact ((apartD_ok (hws e (by simp)) (hws a (by simp)) hap).1 t hd).2 hc.2
    · rw [if_neg hc, if_neg hc]
      exact ih

/-- a block that the run has, and the world not yet, is made -/
theorem Ok.late {C : Ctx} {ρ : Ren} {s : ST} {w : World} (h : Ok C ρ s w) {j : Nat} {p : Loc} {x : SO} {o : Obj} (hj : j < s.next) (hn : ρ j = none) (hx : s.heap.get j = x) (hp : p.blk = w.heap.size) (hr : ObjR (ρ.up j p) p x o) (hnl : x.isL = false) :
    ρ.le (ρ.up j p) ∧ Ok C (ρ.up j p) s (w.alloc o) := by
  have hle : ρ.le (ρ.up j p) := by
    intro i q hq
    have hne : i ≠ j := by rintro rfl; rw [hn] at hq; cases hq
    rw [Ren.up_ne _ _ hne]
    exact hq
  have old : ∀ (b : Nat) (o' : Obj), w.heap[b]? = some o' → b < w.heap.size := by
    intro b o' hb
    rcases Nat.lt_or_ge b w.heap.size with h' | h'
    · exact h'
    · simp [Array.getElem?_eq_none h'] at hb
  have keep : ∀ (b : Nat) (o' : Obj), w.heap[b]? = some o' → (w.alloc o).heap[b]? = some o' := by
    intro b o' hb
    have := old b o' hb
    show (w.heap.push o)[b]? = _
    rw [Array.getElem?_push, if_neg (by omega)]
    exact hb
  refine ⟨hle, h.os, h.tape, h.output, ?_, ?_, ?_, ?_, h.bound, ?_⟩
  rotate_left 4
  · intro i q ob hq hi hC
    by_cases e : i = j
    · subst e
      rw [hx, hnl] at hi
      cases hi
    · rw [Ren.up_ne _ _ e] at hq
      exact keep _ _ (h.itr i q ob hq hi hC)
  · intro i q hq hi
    by_cases e : i = j
    · subst e
      rw [Ren.up_same] at hq
      cases hq
      refine ⟨o, ?_, by rw [hx]; exact hr⟩
      show (w.heap.push o)[p.blk]? = _
      rw [hp, Array.getElem?_push, if_pos rfl]
    · rw [Ren.up_ne _ _ e] at hq
      obtain ⟨oi, h1, h2⟩ := h.obj i q hq hi
      exact ⟨oi, keep _ _ h1, h2.mono hle⟩
  · intro i k q r hq hr' hi hk hb
    by_cases e : i = j
    · by_cases e' : k = j
      · exact e.trans e'.symm
      · subst e
        rw [Ren.up_same] at hq
        cases hq
        rw [Ren.up_ne _ _ e'] at hr'
        have := h.blk_lt hr' hk
        omega
    · rw [Ren.up_ne _ _ e] at hq
      by_cases e' : k = j
      · subst e'
        rw [Ren.up_same] at hr'
        cases hr'
        have := h.blk_lt hq hi
        omega
      · rw [Ren.up_ne _ _ e'] at hr'
        exact h.inj i k q r hq hr' hi hk hb
  · intro b ob hF
    obtain ⟨h1, h2⟩ := h.far b ob hF
    refine ⟨keep _ _ h1, fun i q hq hi => ?_⟩
    by_cases e : i = j
    · subst e
      rw [Ren.up_same] at hq
      cases hq
      have := old b ob h1
      omega
    · rw [Ren.up_ne _ _ e] at hq
      exact h2 i q hq hi
  · intro i q hq
    by_cases e : i = j
    · subst e; exact hj
    · rw [Ren.up_ne _ _ e] at hq
      exact h.dom i q hq

/-- a block that the run has, and the world not yet -/
theorem Ok.phantom {C : Ctx} {ρ : Ren} {s : ST} {w : World} (h : Ok C ρ s w) (hn : s.next < 32768) (x : SO) : Ok C ρ ⟨s.heap.set s.next x, Nat.succ s.next, s.lo, s.it⟩ w ∧ ρ s.next = none := by
  have hnone : ρ s.next = none := by
    cases hq : ρ s.next with
    | none => rfl
    | some q => exact absurd (h.dom _ q hq) (Nat.lt_irrefl _)
  have hget : ∀ i q, ρ i = some q → (s.heap.set s.next x).get i = s.heap.get i := by
    intro i q hq
    have h1 := h.dom i q hq
    exact H3.get_set_ne _ _ hn (by omega) (by omega)
  refine ⟨⟨h.os, h.tape, h.output, ?_, ?_, ?_, ?_, hn, ?_⟩, hnone⟩
  rotate_left 4
  · intro i q ob hq hi hC
    have hi : ((s.heap.set s.next x).get i).isL = true := hi
    rw [hget i q hq] at hi
    exact h.itr i q ob hq hi hC
  · intro i q hq hi
    have e := hget i q hq
    obtain ⟨oi, h1, h2⟩ := h.obj i q hq (by rw [← e]; exact hi)
    exact ⟨oi, h1, by show ObjR ρ q ((s.heap.set s.next x).get i) oi; rw [e]; exact h2⟩
  · intro i k q r hq hr hi hk hb
    exact h.inj i k q r hq hr (by rw [← hget i q hq]; exact hi) (by rw [← hget k r hr]; exact hk) hb
  · intro b ob hF
    obtain ⟨h1, h2⟩ := h.far b ob hF
    exact ⟨h1, fun i q hq hi => h2 i q hq (by rw [← hget i q hq]; exact hi)⟩
  · intro i q hq
    exact Nat.lt_succ_of_lt (h.dom i q hq)

/-- how far the run, and the world, have come -/
structure RI (E : Env) (K : CallF) (C : Ctx) (all : Array Oper) (n : Nat) (t0 : Nat → SV) (s0 : ST) (ρ0 : Ren) (ds : List Deferred) (f0 : Nat → Value) (R : List DI) (Pe : List Ev) (tm : Tm) (s : ST) (pr : List PR) (li : Nat → Bool) (ρ : Ren) (a : Act) (w : World) : Prop where
  good : GoodL E (R.reverse ++ Pe.map (·.d))
  wf : ∀ d ∈ R.reverse ++ Pe.map (·.d), WfD all (infos all.toList) d
  mem : ∀ d ∈ R.reverse ++ Pe.map (·.d), d ∈ infos all.toList
  cover : ∀ j, j < all.size → ∃ p ∈ R.reverse ++ Pe.map (·.d), p.idx = j
  lst : ∀ j, li j = true → ∃ e ∈ Pe, e.d.idx = j
  pe : PE E K t0 s0 li pr s ρ Pe
  nums : ∀ p ∈ Pe, p.mkd = true → p.num < s.next
  tms : ∀ t, t < 512 → (getB t).f tm = tmL (fun _ => true) t0 Pe t
  ta : ∀ t, t < 512 → VR ρ (tmL li t0 Pe t) (a.tmps.getD t undef)
  sz : a.tmps.size = n
  small : n ≤ 512
  ds : a.defers = ds
  ok : Ok C ρ s w
  ext : Ext s0 s ρ0 ρ
  lon : s0.lo ≤ s0.next
  fr : Frm all f0 a

theorem PE.imp {li : Nat → Bool} {pr pr' : List PR} {s s' : ST} {ρ ρ' : Ren} : ∀ {l : List Ev}, PE E K t0 s0 li pr s ρ l → (∀ e ∈ l, li e.d.idx = false → ∀ r, Pend E K t0 s0 e r pr s ρ → Pend E K t0 s0 e r pr' s' ρ') → PE E K t0 s0 li pr' s' ρ' l
  | [], _, _ => trivial
  | e :: l, h, hh => ⟨fun hl => hh e (by simp) hl l (h.1 hl), h.2.1, h.2.2.1, h.2.2.2.1, PE.imp h.2.2.2.2 fun p hp => hh p (by simp [hp])⟩

theorem PE.closed {li : Nat → Bool} {pr : List PR} {s : ST} {ρ : Ren} : ∀ {l : List Ev}, PE E K t0 s0 li pr s ρ l → ∀ e ∈ l, li e.d.idx = true → ∀ j, bit e.d.mask j = true → li j = true
  | [], _, p, hp, _ => by simp at hp
  | e :: l, h, p, hp, hl => by
    rcases List.mem_cons.1 hp with rfl | hp
    · exact h.2.1 hl
    · exact h.2.2.2.2.closed p hp hl
theorem PE.split {li : Nat → Bool} {pr : List PR} {s : ST} {ρ : Ren} : ∀ {l : List Ev}, PE E K t0 s0 li pr s ρ l → ∀ e ∈ l, ∃ pre post, l = pre ++ e :: post ∧ (li e.d.idx = false → Pend E K t0 s0 e post pr s ρ) ∧ (isEff (opB E e.d.o) = true → li e.d.idx = true) ∧
    (∀ p ∈ post, p.mkd = true → p.num < e.num) ∧ (∀ p ∈ pre, e.mkd = true → e.num < p.num)
  | [], _, e, he => by simp at he
  | a :: l, h, e, he => by
    rcases List.mem_cons.1 he with rfl | he
    · exact ⟨[], l, rfl, h.1, h.2.2.1, h.2.2.2.1, by simp⟩
    · obtain ⟨pre, post, rfl, h1, h2, h3, h4⟩ := h.2.2.2.2.split e he
      refine ⟨a :: pre, post, rfl, h1, h2, h3, fun p hp hm => ?_⟩
      rcases List.mem_cons.1 hp with rfl | hp
      · exact h.2.2.2.1 e (by simp) hm
      · exact h4 p hp hm

/-- the run goes on to the next operation that acts -/
theorem toEnd {C : Ctx} {all : Array Oper} {n : Nat} {ρ0 : Ren} {ds : List Deferred} {f0 : Nat → Value} (hdst : DstOk n all) {fin : Tm × ST} {li : Nat → Bool} {ρ : Ren} {a : Act} {w : World} : ∀ (R : List DI) (Pe : List Ev) (tm : Tm) (s : ST) (pr : List PR),
    RI E K C all n t0 s0 ρ0 ds f0 R Pe tm s pr li ρ a w → (drawB E R).run K tm s pr = some fin →
    ∃ R' Pe' tm' s' pr', RI E K C all n t0 s0 ρ0 ds f0 R' Pe' tm' s' pr' li ρ a w ∧ (drawB E R').run K tm' s' pr' = some fin ∧ chkAll s' pr' = true ∧ (R' = [] ∨ ∃ d R3, R' = d :: R3 ∧ isEff (opB E d.o) = true)
  | [], Pe, tm, s, pr, h, hrun => by
    refine ⟨[], Pe, tm, s, pr, h, hrun, ?_, .inl rfl⟩
    unfold drawB at hrun
    dsimp only at hrun
    split at hrun
    · assumption
    · cases hrun
  | d :: R, Pe, tm, s, pr, h, hrun => by
    have hgd : GoodL E (d :: Pe.map (·.d)) := by
      have := h.good
      rw [List.reverse_cons, List.append_assoc] at this
      exact this.tail
    have hwd := h.wf d (by simp)
    have hnl : li d.idx = false := by
      cases hl : li d.idx with
      | false => rfl
      | true =>
        obtain ⟨e, he, e1⟩ := h.lst _ hl
        exact absurd e1 (hgd.1.new e.d (List.mem_map.2 ⟨e, he, rfl⟩))
    -- the next one is noted, and the run goes on
    have note : ∀ (e : Ev) (s' : ST) (pr' : List PR), e.d = d → isEff (opB E d.o) = false → Pend E K t0 s0 e Pe pr' s' ρ → (∀ p ∈ pr, p ∈ pr') → s.next ≤ s'.next → e.num = s.next → (e.mkd = true → e.num < s'.next) → Ok C ρ s' w → Ext s s' ρ ρ →
        (drawB E R).run K ((putO d.o.dst).f e.V tm) s' pr' = some fin →
        ∃ R' Pe' tm' s' pr', RI E K C all n t0 s0 ρ0 ds f0 R' Pe' tm' s' pr' li ρ a w ∧ (drawB E R').run K tm' s' pr' = some fin ∧ chkAll s' pr' = true ∧ (R' = [] ∨ ∃ d R3, R' = d :: R3 ∧ isEff (opB E d.o) = true) := by
      intro e s' pr' hed heff hp hpr hs hnum hmk hok hext hr
      refine toEnd hdst R (e :: Pe) _ s' pr' ?_ hr
      refine ⟨?_, ?_, ?_, ?_, fun j hj => ?_, ⟨fun _ => hp, fun hl => ?_, fun hf => ?_, fun p hpm hm => ?_, ?_⟩, fun p hpm hm => ?_, fun t ht => ?_, fun t ht => ?_, h.sz, h.small, h.ds, hok, h.ext.trans hext, h.lon, h.fr⟩
      · have := h.good
        rw [List.reverse_cons, List.append_assoc] at this
        simpa [hed] using this
      · intro x hx
        refine h.wf x ?_
        simp only [List.map_cons, hed] at hx
        simpa [or_assoc] using hx
      · intro x hx
        refine h.mem x ?_
        simp only [List.map_cons, hed] at hx
        simpa [or_assoc] using hx
      · intro j hj
        obtain ⟨p, hp, e1⟩ := h.cover j hj
        refine ⟨p, ?_, e1⟩
        simp only [List.map_cons, hed]
        simpa [or_assoc] using hp
      · obtain ⟨x, hx, e1⟩ := h.lst j hj
        exact ⟨x, by simp [hx], e1⟩
      · rw [hed, hnl] at hl; cases hl
      · rw [hed, heff] at hf; cases hf
      · rw [hnum]; exact h.nums p hpm hm
      · exact h.pe.imp fun e he hl r hr => hr.mono (fun p hp _ => hpr p hp) hs fun _ _ hh => hh
      · rcases List.mem_cons.1 hpm with rfl | hpm
        · exact hmk hm
        · exact Nat.lt_of_lt_of_le (h.nums p hpm hm) hs
      · unfold tmL
        rw [hed]
        cases hd : d.o.dst with
        | none => rw [if_neg (by rintro ⟨_, hh⟩; cases hh)]; exact h.tms t ht
        | some u =>
          have hu : u < n := hdst d.idx d.o u hwd.at_ hd
          have hu5 := Nat.lt_of_lt_of_le hu h.small
          show (getB t).f ((putB u).f e.V tm) = _
          by_cases e1 : t = u
          · subst e1
            rw [get_put_same _ _ ht, if_pos ⟨rfl, rfl⟩]
          · rw [get_put_ne _ _ hu5 ht e1, if_neg (by rintro ⟨_, hh⟩; exact e1 (Option.some.inj hh).symm)]
            exact h.tms t ht
      · unfold tmL
        rw [if_neg (by rw [hed, hnl]; rintro ⟨hh, _⟩; cases hh)]
        exact h.ta t ht
    cases heff : isEff (opB E d.o) with
    | true =>
      refine ⟨d :: R, Pe, tm, s, pr, h, hrun, ?_, .inr ⟨d, R, rfl, heff⟩⟩
      have stepc : ∀ (r : DBox) (xs : List (Fun Tm SV)), (stepD (opB E d.o) xs (putO d.o.dst) d.idx d.mask r).run K tm s pr = some fin → chkAll s pr = true := by
        intro r xs hh
        rw [stepD_run] at hh
        cases hop : opB E d.o with
        | eff f =>
          rw [hop] at hh
          unfold stepR at hh
          cases hc : chkAll s pr with
          | true => rfl
          | false => rw [hc] at hh; cases hh
        | _ => rw [hop] at heff; cases heff
      unfold drawB at hrun
      split at hrun
      · exact stepc _ _ hrun
      · rw [heff, guardD_run] at hrun
        split at hrun
        · split at hrun
          · exact stepc _ _ hrun
          · cases hc : chkAll s pr with
            | true => rfl
            | false => rw [hc] at hrun; cases hrun
        · cases hc : chkAll s pr with
          | true => rfl
          | false => rw [hc] at hrun; cases hrun
        · cases hrun
    | false =>
      have htm : ∀ t, t < 512 → (getB t).f tm = tmL (fun _ => true) t0 Pe t := h.tms
      have hxs : vals tm (evs d.o.op.operands.toList) = d.o.op.operands.toList.map (evT (tmL (fun _ => true) t0 Pe)) := by
        rw [vals_evT]
        exact map_evT_congr fun t _ ht => htm t ht
      have run : (d.gd = none ∨ ∃ t b, d.gd = some (t, b) ∧ tmL (fun _ => true) t0 Pe t = .bool b) → (stepD (opB E d.o) (evs d.o.op.operands.toList) (putO d.o.dst) d.idx d.mask (drawB E R)).run K tm s pr = some fin →
          ∃ R' Pe' tm' s' pr', RI E K C all n t0 s0 ρ0 ds f0 R' Pe' tm' s' pr' li ρ a w ∧ (drawB E R').run K tm' s' pr' = some fin ∧ chkAll s' pr' = true ∧ (R' = [] ∨ ∃ d R3, R' = d :: R3 ∧ isEff (opB E d.o) = true) := by
        intro hgu hh
        rw [stepD_run] at hh
        split at hh
        · rename_i v s' pr' hst
          rcases stepR_inv hst heff with ⟨rfl, F, hF, hq⟩ | ⟨f, g, x, hop, hf, hn, rfl, rfl, rfl⟩
          · refine note ⟨d, v, vals tm (evs d.o.op.operands.toList), s'.next, false⟩ s' pr' rfl heff (.inr ⟨hgu, hxs, .inl ⟨rfl, F, hF, ?_⟩⟩) ?_ (Nat.le_refl _) rfl (fun hm => by cases hm) h.ok (Ext.refl _ _) hh
            · rcases hq with ⟨hq, _⟩ | hq
              · exact .inl hq
              · exact .inr (by rw [hq]; simp)
            · intro p hp
              rcases hq with ⟨_, hq⟩ | hq
              · rw [hq]; exact hp
              · rw [hq]; simp [hp]
          · obtain ⟨hok', hnone⟩ := h.ok.phantom hn x
            refine note ⟨d, g.f s.next, vals tm (evs d.o.op.operands.toList), s.next, true⟩ _ _ rfl heff (.inr ⟨hgu, hxs, .inr ⟨rfl, f, g, x, hop, hf, rfl, Nat.lt_succ_self _, h.ext.next, hnone, by simp⟩⟩) (fun p hp => by simp [hp]) (Nat.le_succ _) rfl
              (fun _ => Nat.lt_succ_self _) hok' ⟨Ren.le_refl _, fun _ _ => rfl, Nat.le_succ _, rfl, rfl, fun hl j hj _ => H3.get_set_ne _ _ hn (by omega) (by omega)⟩ hh
        · cases hh
      unfold drawB at hrun
      split at hrun
      · rename_i hg
        exact run (.inl hg) hrun
      · rename_i g hg
        rw [heff, guardD_run] at hrun
        obtain ⟨gt, gb⟩ := g
        obtain ⟨j, p, e1, e2, e3⟩ := guardOf_some (hwd.gd ▸ hg)
        have hgn := hdst j p gt e2 e3
        have hg5 := Nat.lt_of_lt_of_le hgn h.small
        dsimp only at hrun
        rw [htm gt hg5] at hrun
        split at hrun
        · rename_i c hc
          split at hrun
          · rename_i hcb
            have : c = gb := by simpa using hcb
            exact run (.inr ⟨gt, gb, hg, by rw [hc, this]⟩) hrun
          · rename_i hcb
            have : c = !gb := by cases c <;> cases gb <;> first | rfl | cases hcb
            exact note ⟨d, .tup [], [], s.next, false⟩ s pr rfl heff (.inl ⟨rfl, rfl, gt, gb, hg, .inr (by rw [hc, this])⟩) (fun p hp => hp) (Nat.le_refl _) rfl (fun hm => by cases hm) h.ok (Ext.refl _ _) hrun
        · rename_i hc
          exact note ⟨d, .tup [], [], s.next, false⟩ s pr rfl heff (.inl ⟨rfl, rfl, gt, gb, hg, .inl hc⟩) (fun p hp => hp) (Nat.le_refl _) rfl (fun hm => by cases hm) h.ok (Ext.refl _ _) hrun
        · cases hrun


theorem countP_lt {p q : Nat → Bool} : ∀ {l : List Nat}, (∀ x ∈ l, q x = true → p x = true) → ∀ i ∈ l, p i = true → q i = false → l.countP q < l.countP p
  | x :: l, hpq, i, hi, h1, h2 => by
    have hle : l.countP q ≤ l.countP p := List.countP_mono_left fun x hx => hpq x (by simp [hx])
    rcases List.mem_cons.1 hi with rfl | hi
    · rw [List.countP_cons_of_pos h1, List.countP_cons_of_neg (by rw [h2]; simp)]
      omega
    · have ih := countP_lt (l := l) (fun x hx => hpq x (by simp [hx])) i hi h1 h2
      rw [List.countP_cons, List.countP_cons]
      have := hpq x (by simp)
      cases hq : q x <;> cases hp : p x <;> simp_all <;> omega

theorem PE.relist {li li' : Nat → Bool} {pr : List PR} {s : ST} {ρ ρ' : Ren} (h1 : ∀ j, li j = true → li' j = true) : ∀ {l : List Ev}, PE E K t0 s0 li pr s ρ l → (∀ e ∈ l, li e.d.idx = false → li' e.d.idx = true → ∀ j, bit e.d.mask j = true → li' j = true) →
    (∀ e ∈ l, li' e.d.idx = false → ∀ r, Pend E K t0 s0 e r pr s ρ → Pend E K t0 s0 e r pr s ρ') → PE E K t0 s0 li' pr s ρ' l
  | [], _, _, _ => trivial
  | e :: l, h, h2, h3 => by
    refine ⟨fun hl => h3 e (by simp) hl l (h.1 ?_), fun hl j hj => ?_, fun hf => h1 _ (h.2.2.1 hf), h.2.2.2.1, PE.relist h1 h.2.2.2.2 (fun p hp => h2 p (by simp [hp])) (fun p hp => h3 p (by simp [hp]))⟩
    · cases hh : li e.d.idx with
      | false => rfl
      | true => rw [h1 _ hh] at hl; cases hl
    · cases hh : li e.d.idx with
      | true => exact h1 _ (h.2.1 hh j hj)
      | false => exact h2 e (by simp) hh hl j hj

theorem getD_ff {listed : Array Bool} {j : Nat} (h : j < listed.size) : listed.getD j true = listed.getD j false := by
  rw [Array.getD_eq_getD_getElem?, Array.getD_eq_getD_getElem?]
  simp [h]
theorem getD_set {listed : Array Bool} {i : Nat} (h : i < listed.size) (j : Nat) : (listed.setIfInBounds i true).getD j false = if j = i then true else listed.getD j false := by
  by_cases hj : j = i
  · subst hj; simp [h]
  · rw [if_neg hj, getD_set_ne false (Ne.symm hj)]

theorem put_ta {ρ ρ' : Ren} (hle : ρ.le ρ') {n : Nat} {a : Act} {dst : Option Nat} (hsz : a.tmps.size = n) (hd : ∀ t, dst = some t → t < n) {f g : Nat → SV} {V : SV} {v : Value} (hV : VR ρ' V v)
    (hg : ∀ t, g t = if dst = some t then V else f t) (h : ∀ t, t < 512 → VR ρ (f t) (a.tmps.getD t undef)) : ∀ t, t < 512 → VR ρ' (g t) ((a.put dst v).tmps.getD t undef) := by
  intro t ht
  rw [hg]
  by_cases hdt : dst = some t
  · rw [if_pos hdt, hdt, getD_put_same (by rw [hsz]; exact hd t hdt)]
    exact hV
  · rw [if_neg hdt]
    have : (a.put dst v).tmps.getD t undef = a.tmps.getD t undef := by
      cases dst with
      | none => rfl
      | some u => exact getD_put_ne (fun e => hdt (by rw [e]))
    rw [this]
    exact (h t ht).mono hle _ _

/-- a region whose order is drawn: whatever may come next, it goes on -/
theorem drawn_any (hE : EnvOk P E) (hS : ∀ o : Oper, Sound P K o (opB E o)) {C : Ctx} {all : Array Oper} {n : Nat} {ρ0 : Ren} {ds : List Deferred} {f0 : Nat → Value} (hdst : DstOk n all) {Q : Exit → Act → World → Prop} {tmF : Tm} {sF : ST}
    (hQ : ∀ ρ' a' w', Ext s0 sF ρ0 ρ' → TmR ρ' n tmF a' → a'.defers = ds → Frm all f0 a' → Ok C ρ' sF w' → Q .normal a' w') :
    ∀ (fuel : Nat) (listed : Array Bool) (R : List DI) (Pe : List Ev) (tm : Tm) (s : ST) (pr : List PR) (ρ : Ren) (a : Act) (w : World), listed.size = all.size → (List.range all.size).countP (fun i => !listed.getD i false) ≤ fuel →
      RI E K C all n t0 s0 ρ0 ds f0 R Pe tm s pr (fun i => listed.getD i false) ρ a w → (drawB E R).run K tm s pr = some (tmF, sF) → chkAll s pr = true → (R = [] ∨ ∃ d R3, R = d :: R3 ∧ isEff (opB E d.o) = true) → wpAny P .any all Q fuel listed a w := by
  -- when all is done
  have fin : ∀ (listed : Array Bool) (R : List DI) (Pe : List Ev) (tm : Tm) (s : ST) (pr : List PR) (ρ : Ren) (a : Act) (w : World),
      RI E K C all n t0 s0 ρ0 ds f0 R Pe tm s pr (fun i => listed.getD i false) ρ a w → (drawB E R).run K tm s pr = some (tmF, sF) → R = [] → (∀ e ∈ Pe, listed.getD e.d.idx false = true) → Q .normal a w := by
    intro listed R Pe tm s pr ρ a w h hrun hR hall
    subst hR
    have hfs : tm = tmF ∧ s = sF := by
      unfold drawB at hrun
      try dsimp only at hrun
      split at hrun
      · cases hrun; exact ⟨rfl, rfl⟩
      · cases hrun
    obtain ⟨rfl, rfl⟩ := hfs
    refine hQ ρ a w h.ext ⟨h.sz, h.small, fun t ht => ?_⟩ h.ds h.fr h.ok
    rw [h.tms t ht, ← tmL_agree (li := fun i => listed.getD i false) fun p hp _ => hall p hp]
    exact h.ta t ht
  -- nothing may come: then all is done
  have done : ∀ (listed : Array Bool) (R : List DI) (Pe : List Ev) (tm : Tm) (s : ST) (pr : List PR) (ρ : Ren) (a : Act) (w : World), listed.size = all.size →
      RI E K C all n t0 s0 ρ0 ds f0 R Pe tm s pr (fun i => listed.getD i false) ρ a w → Region.ready .any all listed = [] → R = [] ∧ ∀ e ∈ Pe, listed.getD e.d.idx false = true := by
    intro listed R Pe tm s pr ρ a w hsz h hr
    have key : ∀ (d : DI) (l : List DI), Good E d l → WfD all (infos all.toList) d → (∀ p ∈ l, listed.getD p.idx false = true) → listed.getD d.idx false = true := by
      intro d l hg hw hl
      cases hd : listed.getD d.idx false with
      | true => rfl
      | false =>
        have hlt : d.idx < all.size := (Array.getElem?_eq_some_iff.1 hw.at_).1
        have hin : d.idx ∈ Region.ready .any all listed := by
          rw [mem_ready]
          refine ⟨by rw [getD_ff (by omega)]; exact hd, d.o, hw.at_, fun e he hb => ?_⟩
          obtain ⟨p, hp, e1⟩ := hg.ahead _ (hw.dir e (by simpa using he) hb)
          rw [← e1]
          exact hl p hp
        rw [hr] at hin
        cases hin
    have hall : ∀ (l : List Ev), GoodL E (l.map (·.d)) → (∀ e ∈ l, WfD all (infos all.toList) e.d) → ∀ e ∈ l, listed.getD e.d.idx false = true := by
      intro l
      induction l with
      | nil => intro _ _ e he; cases he
      | cons x l ihl =>
        intro hg hw e he
        have ih := ihl hg.2 fun e he => hw e (by simp [he])
        rcases List.mem_cons.1 he with rfl | he
        · exact key e.d _ hg.1 (hw e (by simp)) fun p hp => by obtain ⟨q, hq, rfl⟩ := List.mem_map.1 hp; exact ih q hq
        · exact ih e he
    have hPe := hall Pe h.good.tail fun e he => h.wf e.d (List.mem_append_right _ (List.mem_map.2 ⟨e, he, rfl⟩))
    refine ⟨?_, hPe⟩
    cases R with
    | nil => rfl
    | cons d R =>
      have hgd : GoodL E (d :: Pe.map (·.d)) := by
        have := h.good
        rw [List.reverse_cons, List.append_assoc] at this
        exact this.tail
      have := key d _ hgd.1 (h.wf d (by simp)) fun p hp => by obtain ⟨q, hq, rfl⟩ := List.mem_map.1 hp; exact hPe q hq
      obtain ⟨e, he, e1⟩ := h.lst d.idx this
      exact absurd e1 (hgd.1.new e.d (List.mem_map.2 ⟨e, he, rfl⟩))
  intro fuel
  induction fuel with
  | zero =>
    intro listed R Pe tm s pr ρ a w hsz hcnt h hrun hchk hR
    have hl : ∀ j, j < all.size → listed.getD j false = true := by
      intro j hj
      have := List.countP_eq_zero.1 (Nat.le_zero.1 hcnt) j (by simpa using hj)
      simpa using this
    have hr : Region.ready .any all listed = [] := by
      apply List.eq_nil_iff_forall_not_mem.2
      intro j hj
      obtain ⟨h1, o, h2, _⟩ := mem_ready.1 hj
      have hlt : j < all.size := (Array.getElem?_eq_some_iff.1 h2).1
      rw [getD_ff (by omega), hl j hlt] at h1
      cases h1
    obtain ⟨e1, e2⟩ := done listed R Pe tm s pr ρ a w hsz h hr
    exact ⟨hr, fin listed R Pe tm s pr ρ a w h hrun e1 e2⟩
  | succ fuel ih =>
    intro listed R Pe tm s pr ρ a w hsz hcnt h hrun hchk hR
    refine ⟨fun hr => by obtain ⟨e1, e2⟩ := done listed R Pe tm s pr ρ a w hsz h hr; exact fin listed R Pe tm s pr ρ a w h hrun e1 e2, fun i hi => ?_⟩
    obtain ⟨hun, o, hio, hafter⟩ := mem_ready.1 hi
    have hlt : i < all.size := (Array.getElem?_eq_some_iff.1 hio).1
    have hlt' : i < listed.size := by omega
    rw [getD_ff hlt'] at hun
    have hcnt' : (List.range all.size).countP (fun j => !(listed.setIfInBounds i true).getD j false) ≤ fuel := by
      have := countP_lt (p := fun j => !listed.getD j false) (q := fun j => !(listed.setIfInBounds i true).getD j false) (l := List.range all.size) (fun x _ hx => by
        rw [getD_set hlt'] at hx
        split at hx
        · cases hx
        · exact hx) i (by simpa using hlt) (by simp [hun]) (by rw [getD_set hlt', if_pos rfl]; rfl)
      omega
    have hsz' : (listed.setIfInBounds i true).size = all.size := by simp [hsz]
    have hPeWf : ∀ e ∈ Pe, WfD all (infos all.toList) e.d := fun e he => h.wf e.d (List.mem_append_right _ (List.mem_map.2 ⟨e, he, rfl⟩))
    have hgPe : GoodL E (Pe.map (·.d)) := h.good.tail
    -- what lies ahead of one that may come has been done
    have ahead : ∀ d : DI, d ∈ infos all.toList → WfD all (infos all.toList) d → d.idx = i → ∀ j, bit d.mask j = true → listed.getD j false = true := by
      intro d hmem hw hdi j hj
      obtain ⟨e, he, hb, hh⟩ := hw.inv j hj
      have hoo : d.o = o := by
        have := hw.at_
        rw [hdi, hio] at this
        exact (Option.some.inj this).symm
      have hon := hafter e (by rw [hoo] at he; simpa using he) hb
      rcases hh with rfl | ⟨q, hq, e1, e2⟩
      · exact hon
      · obtain ⟨x, hx, e3⟩ := h.lst e.on hon
        have hxq : x.d = q := infosGo_uniq all.toList all.toList 0 [] x.d (h.mem x.d (List.mem_append_right _ (List.mem_map.2 ⟨x, hx, rfl⟩))) q hq (by rw [e3, e1])
        exact h.pe.closed x hx (by rw [e3]; exact hon) j (by rw [hxq]; exact e2)
    have hle' : ∀ j, listed.getD j false = true → (listed.setIfInBounds i true).getD j false = true := fun j hj => getD_set_true hj
    -- by its place in the run
    have where_ : (∃ e ∈ Pe, e.d.idx = i) ∨ ∃ d R3, R = d :: R3 ∧ d.idx = i ∧ isEff (opB E d.o) = true := by
      obtain ⟨p, hp, e1⟩ := h.cover i hlt
      rcases List.mem_append.1 hp with hp | hp
      · rcases hR with rfl | ⟨d, R3, rfl, heff⟩
        · cases hp
        · rw [List.reverse_cons] at hp
          rcases List.mem_append.1 hp with hp | hp
          · exfalso
            obtain ⟨l1, l2, hl⟩ := List.append_of_mem hp
            have hg := h.good
            rw [List.reverse_cons, hl] at hg
            simp only [List.append_assoc, List.cons_append] at hg
            have hgp := (GoodL.tail (l1 := l1) hg).1
            have hd : d ∈ l2 ++ ([d] ++ Pe.map (·.d)) := by simp
            have hb : bit p.mask d.idx = true := by
              rcases hgp.apart d (by simp) with hb | ⟨hb, _⟩
              · exact hb
              · rw [heff] at hb; cases hb
            have hpin : p ∈ (d :: R3).reverse ++ Pe.map (·.d) := by simp at hp ⊢; simp [hp]
            have hdl := ahead p (h.mem p hpin) (h.wf p hpin) e1 _ hb
            obtain ⟨x, hx, e3⟩ := h.lst d.idx hdl
            have hgd : GoodL E (d :: Pe.map (·.d)) := by
              have := h.good
              rw [List.reverse_cons, List.append_assoc] at this
              exact this.tail
            exact hgd.1.new x.d (List.mem_map.2 ⟨x, hx, rfl⟩) e3
          · simp at hp
            subst hp
            exact .inr ⟨p, R3, rfl, e1, heff⟩
      · obtain ⟨e, he, rfl⟩ := List.mem_map.1 hp
        exact .inl ⟨e, he, e1⟩
    unfold wpOp
    simp only [hio]
    rcases where_ with ⟨e, he, hei⟩ | ⟨d, R3, rfl, hdi, heff⟩
    · -- one that waited
      obtain ⟨pre, post, hsplit, hpend, hef, hn1, hn2⟩ := h.pe.split e he
      have hun' : listed.getD e.d.idx false = false := by rw [hei]; exact hun
      have hpend := hpend hun'
      have hwe := hPeWf e he
      have hoo : e.d.o = o := by
        have := hwe.at_
        rw [hei, hio] at this
        exact (Option.some.inj this).symm
      have hah := ahead e.d (h.mem e.d (List.mem_append_right _ (List.mem_map.2 ⟨e, he, rfl⟩))) hwe hei
      have hdo : ∀ t, o.dst = some t → t < n := fun t ht => hdst i o t hio ht
      have hcl : ∀ p ∈ pre, listed.getD p.d.idx false = true → ∀ j, bit p.d.mask j = true → listed.getD j false = true := fun p hp => h.pe.closed p (by rw [hsplit]; simp [hp])
      have hread : ∀ t, Looks e.d t → t < 512 → VR ρ (tmL (fun _ => true) t0 post t) (a.tmps.getD t undef) := by
        intro t ht ht5
        have := tmL_wait (t0 := t0) (li := fun i => listed.getD i false) (pre := pre) (e := e) (l := post) (by rw [← hsplit]; exact hgPe) (by rw [← hsplit]; exact hPeWf) hcl hun' hah ht
        rw [← this, ← hsplit]
        exact h.ta t ht5
      have cont : ∀ (ρ' : Ren) (v' : Value) (w' : World), ρ.le ρ' → Ext s0 s ρ0 ρ' → VR ρ' e.V v' → Ok C ρ' s w' → (∀ p ∈ Pe, p.mkd = true → p.d.idx ≠ i → p.num < s.next → ρ p.num = none → ρ' p.num = none) →
          wpAny P .any all Q fuel (listed.setIfInBounds i true) (a.put o.dst v') w' := by
        intro ρ' v' w' hle hext hv hok hother
        refine ih (listed.setIfInBounds i true) R Pe tm s pr ρ' _ w' hsz' hcnt' ?_ hrun hchk hR
        refine ⟨h.good, h.wf, h.mem, h.cover, fun j hj => ?_, ?_, h.nums, h.tms, ?_, by rw [size_put]; exact h.sz, h.small, by rw [defers_put]; exact h.ds, hok, hext, h.lon, h.fr.put hio _⟩
        · try dsimp only at hj
          rw [getD_set hlt'] at hj
          split at hj
          · rename_i hji; exact ⟨e, he, by rw [hei, hji]⟩
          · exact h.lst j hj
        · refine h.pe.relist hle' (fun p hp hl hl' j hj => ?_) (fun p hp hl r hr => ?_)
          · try dsimp only at hl hl'
            rw [getD_set hlt'] at hl'
            split at hl'
            · rename_i hpi
              exact hle' j (ahead p.d (h.mem p.d (List.mem_append_right _ (List.mem_map.2 ⟨p, hp, rfl⟩))) (hPeWf p hp) hpi j hj)
            · rw [hl] at hl'; cases hl'
          · have hpi : p.d.idx ≠ i := by
              intro hpi
              try dsimp only at hl
              rw [getD_set hlt', if_pos hpi] at hl
              cases hl
            exact hr.mono (fun p hp _ => hp) (Nat.le_refl _) fun hm hn hno => hother p hp hm hpi hn hno
        · refine put_ta (f := tmL (fun i => listed.getD i false) t0 Pe) hle h.sz hdo hv (fun t => ?_) h.ta
          rw [hsplit]
          have := tmL_done (t0 := t0) (li := fun i => listed.getD i false) (li' := fun j => (listed.setIfInBounds i true).getD j false) (pre := pre) (e := e) (l := post)
            (fun j hj => by rw [getD_set hlt', if_neg (by rw [← hei]; exact hj)]) (by rw [getD_set hlt', if_pos hei]) (by rw [← hsplit]; exact hgPe) (by rw [← hsplit]; exact hPeWf) hcl hun' t
          rw [this, hoo]
      have extSame : ∀ ρ' : Ren, Ext s s ρ ρ' → Ext s0 s ρ0 ρ' := fun ρ' hx => h.ext.trans hx
      rcases hpend with ⟨hm, hV, t, b, hg, ht⟩ | ⟨hgu, hxs, hkind⟩
      · -- it is left out
        obtain ⟨j, p, e1, e2, e3⟩ := guardOf_some (hwe.gd ▸ hg)
        rw [hoo] at e1
        have htn := hdst j p t e2 e3
        have ht5 := Nat.lt_of_lt_of_le htn h.small
        have hr := hread t (.inr ⟨b, hg⟩) ht5
        have hw : Region.wanted o (yielded all a.tmps) = false := by
          rcases ht with ht | ht
          · rw [ht] at hr; exact wanted_undef' e1 e2 e3 (by rw [h.sz]; exact htn) hr
          · rw [ht] at hr; rw [wanted_bool' e1 e2 e3 (by rw [h.sz]; exact htn) hr]; cases b <;> rfl
        rw [if_neg (by rw [hw]; simp)]
        exact cont ρ undef w (Ren.le_refl _) h.ext (by rw [hV]; exact VR.undef ρ) h.ok fun p hp hm hpi hn hno => hno
      · have hw : Region.wanted o (yielded all a.tmps) = true := by
          rcases hgu with hg | ⟨t, b, hg, ht⟩
          · have hgood : Good E e.d (post.map (·.d)) := by
              have := hgPe
              rw [hsplit, List.map_append, List.map_cons] at this
              exact (GoodL.tail this).1
            have := hwe.ok hgood.ok hg
            rw [hoo] at this
            simp [Region.wanted, this]
          · obtain ⟨j, p, e1, e2, e3⟩ := guardOf_some (hwe.gd ▸ hg)
            rw [hoo] at e1
            have htn := hdst j p t e2 e3
            have ht5 := Nat.lt_of_lt_of_le htn h.small
            have hr := hread t (.inr ⟨b, hg⟩) ht5
            rw [ht] at hr
            rw [wanted_bool' e1 e2 e3 (by rw [h.sz]; exact htn) hr]
            cases b <;> rfl
        rw [if_pos hw]
        have hops : VRL ρ e.xs (o.op.operands.toList.map a.eval) := by
          rw [hxs, hoo]
          exact evT_ok fun t ht ht5 => hread t (.inl (by rw [hoo]; exact ht)) ht5
        refine .inl ?_
        rcases hkind with ⟨hm, F, hF, hF2⟩ | ⟨hm, f, g, x, hop, hf, hV, hns, hn0, hnone, hpr⟩
        · have hFs : F s = some e.V := by
            rcases hF2 with hF2 | hF2
            · exact hF2 s
            · exact isSame_eq (chkAll_mem hchk _ hF2)
          have happ := hF s e.V hFs
          rw [hoo] at happ
          refine hS o C ρ s s w a e.xs e.V hops h.ok happ _ Q fun ρ' v' w' hx hv hok' => ?_
          exact cont ρ' v' w' hx.le (extSame ρ' hx) hv hok' fun p hp hm hpi hn hno => by rw [hx.same _ hn]; exact hno
        · have hx : s.heap.get e.num = x := sameO_eq (chkAll_mem hchk _ hpr)
          rw [hoo] at hop
          obtain ⟨v', ob, st, hrun1, hvr⟩ := opB_mk hE hop ρ w a e.xs g x hops hf
          have hle : ρ.le (ρ.up e.num ⟨w.heap.size, 0, st⟩) := by
            intro i q hq
            have hne : i ≠ e.num := by rintro rfl; rw [hnone] at hq; cases hq
            rw [Ren.up_ne _ _ hne]
            exact hq
          obtain ⟨hv, hob, hnl⟩ := hvr (ρ.up e.num ⟨w.heap.size, 0, st⟩) e.num hle (Ren.up_same _ _ _)
          obtain ⟨_, hok'⟩ := h.ok.late hns hnone hx rfl hob hnl
          refine wp_value hrun1 (cont _ v' _ hle ?_ (by rw [hV]; exact hv) hok' fun p hp hpm hpi hn hno => ?_)
          · exact h.ext.trans' hle (fun j hj => Ren.up_ne _ _ (by omega))
          · refine (Ren.up_ne _ _ ?_).trans hno
            rw [hsplit] at hp
            rcases List.mem_append.1 hp with hp | hp
            · have := hn2 p hp hm; omega
            · rcases List.mem_cons.1 hp with rfl | hp
              · exact absurd hei hpi
              · have := hn1 p hp hpm; omega
    · -- the next one that acts
      have hgd : GoodL E (d :: Pe.map (·.d)) := by
        have := h.good
        rw [List.reverse_cons, List.append_assoc] at this
        exact this.tail
      have hwd := h.wf d (by simp)
      have hoo : d.o = o := by
        have := hwd.at_
        rw [hdi, hio] at this
        exact (Option.some.inj this).symm
      have hah := ahead d (h.mem d (by simp)) hwd hdi
      have hdo : ∀ t, o.dst = some t → t < n := fun t ht => hdst i o t hio ht
      have hread : ∀ t, Looks d t → t < 512 → VR ρ (tmL (fun _ => true) t0 Pe t) (a.tmps.getD t undef) := by
        intro t ht ht5
        rw [← tmL_next (li := fun i => listed.getD i false) hgd.1 hwd hPeWf hah ht]
        exact h.ta t ht5
      have cont : ∀ (ρ' : Ren) (V : SV) (v' : Value) (s' : ST) (w' : World), Ext s s' ρ ρ' → VR ρ' V v' → Ok C ρ' s' w' → (drawB E R3).run K ((putO o.dst).f V tm) s' (dropPR d.mask pr) = some (tmF, sF) →
          wpAny P .any all Q fuel (listed.setIfInBounds i true) (a.put o.dst v') w' := by
        intro ρ' V v' s' w' hx hv hok hr
        have hRI : RI E K C all n t0 s0 ρ0 ds f0 R3 (⟨d, V, [], s'.next, false⟩ :: Pe) ((putO o.dst).f V tm) s' (dropPR d.mask pr) (fun j => (listed.setIfInBounds i true).getD j false) ρ' (a.put o.dst v') w' := by
          refine ⟨?_, ?_, ?_, ?_, fun j hj => ?_, ⟨fun hl => ?_, fun _ j hj => hle' j (hah j hj), fun _ => ?_, fun p hp hm => ?_, ?_⟩, fun p hp hm => ?_, fun t ht => ?_, ?_, by rw [size_put]; exact h.sz, h.small, by rw [defers_put]; exact h.ds, hok, h.ext.trans hx, h.lon, h.fr.put hio _⟩
          · have := h.good
            rw [List.reverse_cons, List.append_assoc] at this
            simpa using this
          · intro x hx'
            refine h.wf x ?_
            simp only [List.map_cons] at hx'
            simpa [or_assoc] using hx'
          · intro x hx'
            refine h.mem x ?_
            simp only [List.map_cons] at hx'
            simpa [or_assoc] using hx'
          · intro j hj
            obtain ⟨p, hp, e1⟩ := h.cover j hj
            refine ⟨p, ?_, e1⟩
            simp only [List.map_cons]
            simpa [or_assoc] using hp
          · try dsimp only at hj
            rw [getD_set hlt'] at hj
            split at hj
            · rename_i hji; exact ⟨⟨d, V, [], s'.next, false⟩, List.mem_cons_self, by rw [hji]; exact hdi⟩
            · obtain ⟨x, hx', e1⟩ := h.lst j hj
              exact ⟨x, by simp [hx'], e1⟩
          · try dsimp only at hl
            rw [getD_set hlt', if_pos hdi] at hl
            cases hl
          · try dsimp only
            rw [getD_set hlt', if_pos hdi]
          · exact Nat.lt_of_lt_of_le (h.nums p hp hm) hx.next
          · have hp0 : PE E K t0 s0 (fun i => listed.getD i false) (dropPR d.mask pr) s' ρ' Pe := by
              refine h.pe.imp fun e he hl r hr => hr.mono (fun p hp hpi => dropPR_mem hp ?_) hx.next fun _ hn hno => by rw [hx.same _ hn]; exact hno
              cases hb : bit d.mask p.i with
              | false => rfl
              | true =>
                have := hah _ hb
                rw [hpi] at this
                try dsimp only at hl
                rw [hl] at this; cases this
            refine hp0.relist hle' (fun p hp hl hl' j hj => ?_) (fun p hp hl r hr => hr)
            try dsimp only at hl hl'
            rw [getD_set hlt'] at hl'
            split at hl'
            · rename_i hpi
              exact hle' j (ahead p.d (h.mem p.d (List.mem_append_right _ (List.mem_map.2 ⟨p, hp, rfl⟩))) (hPeWf p hp) hpi j hj)
            · rw [hl] at hl'; cases hl'
          · rcases List.mem_cons.1 hp with rfl | hp
            · cases hm
            · exact Nat.lt_of_lt_of_le (h.nums p hp hm) hx.next
          · unfold tmL
            show (getB t).f ((putO o.dst).f V tm) = if true = true ∧ d.o.dst = some t then V else _
            rw [hoo]
            cases hd : o.dst with
            | none => rw [if_neg (by rintro ⟨_, hh⟩; cases hh)]; exact h.tms t ht
            | some u =>
              have hu5 := Nat.lt_of_lt_of_le (hdo u hd) h.small
              show (getB t).f ((putB u).f V tm) = _
              by_cases e1 : t = u
              · subst e1
                rw [get_put_same _ _ ht, if_pos ⟨rfl, rfl⟩]
              · rw [get_put_ne _ _ hu5 ht e1, if_neg (by rintro ⟨_, hh⟩; exact e1 (Option.some.inj hh).symm)]
                exact h.tms t ht
          · refine put_ta (f := tmL (fun i => listed.getD i false) t0 Pe) hx.le h.sz hdo hv (fun t => ?_) h.ta
            rw [tmL_cons]
            show (if (listed.setIfInBounds i true).getD d.idx false = true ∧ d.o.dst = some t then V else _) = _
            rw [getD_set hlt', if_pos hdi, hoo]
            have hsame : ∀ {q : List Ev}, (∀ p ∈ q, p.d.idx ≠ i) → tmL (fun j => (listed.setIfInBounds i true).getD j false) t0 q t = tmL (fun i => listed.getD i false) t0 q t := by
              intro q
              induction q with
              | nil => intro _; rfl
              | cons p q ih =>
                intro hq
                rw [tmL_cons, tmL_cons]
                rw [getD_set hlt', if_neg (hq p (by simp)), ih fun p hp => hq p (by simp [hp])]
            rw [hsame fun p hp hpi => hgd.1.new p.d (List.mem_map.2 ⟨p, hp, rfl⟩) (by rw [hpi, hdi])]
            by_cases hd : o.dst = some t
            · rw [if_pos ⟨rfl, hd⟩, if_pos hd]
            · rw [if_neg (fun hh => hd hh.2), if_neg hd]
        obtain ⟨R', Pe', tm', s2, pr', h1, h2, h3, h4⟩ := toEnd hdst R3 _ _ s' _ hRI hr
        exact ih _ R' Pe' tm' s2 pr' ρ' _ w' hsz' hcnt' h1 h2 h3 h4
      have hxs : vals tm (evs d.o.op.operands.toList) = d.o.op.operands.toList.map (evT (tmL (fun _ => true) t0 Pe)) := by
        rw [vals_evT]
        exact map_evT_congr fun t _ ht => h.tms t ht
      have run : (stepD (opB E d.o) (evs d.o.op.operands.toList) (putO d.o.dst) d.idx d.mask (drawB E R3)).run K tm s pr = some (tmF, sF) → o.wp P a w (wpAny P .any all Q fuel (listed.setIfInBounds i true)) Q := by
        intro hh
        rw [stepD_run] at hh
        split at hh
        · rename_i v s' pr' hst
          cases hop : opB E d.o with
          | eff f =>
            rw [hop] at hst
            obtain ⟨_, hf, rfl⟩ := stepR_eff hst
            have happ : (opB E o).app K (vals tm (evs d.o.op.operands.toList)) s = some (v, s') := by rw [← hoo, hop]; exact hf
            have hops : VRL ρ (vals tm (evs d.o.op.operands.toList)) (o.op.operands.toList.map a.eval) := by
              rw [hxs, hoo]
              exact evT_ok fun t ht ht5 => hread t (.inl (by rw [hoo]; exact ht)) ht5
            refine hS o C ρ s s' w a _ v hops h.ok happ _ Q fun ρ' v' w' hx hv hok' => ?_
            exact cont ρ' v v' s' w' hx hv hok' (by rw [← hoo]; exact hh)
          | _ => rw [hop] at heff; cases heff
        · cases hh
      unfold drawB at hrun
      split at hrun
      · rename_i hg
        have hgo := hwd.ok hgd.1.ok hg
        rw [hoo] at hgo
        rw [if_pos (by simp [Region.wanted, hgo])]
        exact .inl (run hrun)
      · rename_i g hg
        rw [heff, guardD_run] at hrun
        obtain ⟨gt, gb⟩ := g
        obtain ⟨j, p, e1, e2, e3⟩ := guardOf_some (hwd.gd ▸ hg)
        rw [hoo] at e1
        have hgn := hdst j p gt e2 e3
        have hg5 := Nat.lt_of_lt_of_le hgn h.small
        have hr := hread gt (.inr ⟨gb, hg⟩) hg5
        try dsimp only at hrun
        rw [h.tms gt hg5] at hrun
        have skip : ∀ (hw : Region.wanted o (yielded all a.tmps) = false), (match chkAll s pr with
            | true => (drawB E R3).run K ((putO d.o.dst).f (.tup []) tm) s (dropPR d.mask pr)
            | false => none) = some (tmF, sF) → (if Region.wanted o (yielded all a.tmps) = true then o.wp P a w (wpAny P .any all Q fuel (listed.setIfInBounds i true)) Q ∨ (o.asks P a w ∧ LetsOut Q) else wpAny P .any all Q fuel (listed.setIfInBounds i true) (a.put o.dst undef) w) := by
          intro hw hh
          rw [hchk] at hh
          rw [if_neg (by rw [hw]; simp)]
          exact cont ρ (.tup []) undef s w (Ext.refl _ _) (VR.undef ρ) h.ok (by rw [← hoo]; exact hh)
        split at hrun
        · rename_i c hc
          rw [hc] at hr
          have hw := wanted_bool' e1 e2 e3 (by rw [h.sz]; exact hgn) hr
          split at hrun
          · rename_i hcb
            rw [if_pos (by rw [hw]; exact hcb)]
            exact .inl (run hrun)
          · rename_i hcb
            exact skip (by rw [hw, hcb]) hrun
        · rename_i hc
          rw [hc] at hr
          have hw := wanted_undef' e1 e2 e3 (by rw [h.sz]; exact hgn) hr
          exact skip hw hrun
        · cases hrun

/-- a region whose order is drawn -/
theorem drawn_ok (hE : EnvOk P E) (hS : ∀ o : Oper, Sound P K o (opB E o)) (hm : P.follows .mixedOrders = true) {id : Nat} {ops : Array Oper} {n : Nat} (hd : DstOk n ops) {Q : Exit → Act → World → Prop} {C : Ctx} {tm tm' : Tm} {s s' : ST} {ρ : Ren} {a : Act} {w : World}
    (hrun : (drawnB E ops.toList).run K tm s = some (tm', s')) (htm : TmR ρ n tm a) (hok : Ok C ρ s w) (hlo : s.lo ≤ s.next)
    (hQ : ∀ ρ' a' w', Ext s s' ρ ρ' → TmR ρ' n tm' a' → a'.defers = a.defers → Frm ops (fun t => a.tmps.getD t undef) a' → Ok C ρ' s' w' → Q .normal a' w') : (Code.region id ops true).wp P Q a w := by
  refine wp_region_any hm ?_
  unfold drawnB at hrun
  try dsimp only at hrun
  split at hrun
  · rename_i hokd
    obtain ⟨hg, hcov⟩ := okD_ok _ 0 [] hokd (fun j => by simp [bit_zero]) trivial
    have hlen : lenD (infos ops.toList) = ops.size := by
      have h1 : ∀ l : List DI, lenD l = l.length := by
        intro l
        induction l with
        | nil => rfl
        | cons x l ih => show Nat.succ (lenD l) = _; rw [ih]; rfl
      have h2 : ∀ (all l : List Oper) (i : Nat) (acc : List Nat), (infosGo all l i acc).length = l.length := by
        intro all l
        induction l with
        | nil => intros; rfl
        | cons o l ih => intro i acc; unfold infosGo; simp [ih]
      rw [h1]
      unfold infos
      rw [h2]
      simp
    have hmem : ∀ d ∈ orderD E (lenD (infos ops.toList)) 0 (infos ops.toList), d ∈ infos ops.toList := orderD_mem _ _ _
    have hRI : RI E K C ops n (fun t => (getB t).f tm) s ρ a.defers (fun t => a.tmps.getD t undef) (orderD E (lenD (infos ops.toList)) 0 (infos ops.toList)) [] tm s [] (fun i => (Array.replicate ops.size false).getD i false) ρ a w.drew := by
      refine ⟨by simpa using hg, fun d hd => infos_ok ops d (hmem d (by simpa using hd)), fun d hd => hmem d (by simpa using hd), fun j hj => ?_, fun j hj => ?_, trivial, by simp, fun t _ => rfl, fun t ht => htm.rel t ht, htm.size, htm.small, rfl, hok.drew, Ext.refl _ _, hlo, fun _ _ => rfl⟩
      · obtain ⟨p, hp, e⟩ := hcov j (by rw [hlen]; exact hj)
        exact ⟨p, by simpa using hp, e⟩
      · try dsimp only at hj
        rw [Array.getD_eq_getD_getElem?] at hj
        by_cases hjs : j < ops.size
        · simp [hjs] at hj
        · simp [hjs] at hj
    have hrun' : (drawB E (orderD E (lenD (infos ops.toList)) 0 (infos ops.toList))).run K tm s [] = some (tm', s') := by
      generalize drawB E (orderD E (lenD (infos ops.toList)) 0 (infos ops.toList)) = r at hrun
      obtain ⟨r⟩ := r
      exact hrun
    obtain ⟨R', Pe', tm2, s2, pr', h1, h2, h3, h4⟩ := toEnd hd _ _ _ s _ hRI hrun'
    exact drawn_any hE hS hd hQ ops.size _ R' Pe' tm2 s2 pr' ρ a w.drew (by simp) (by
      refine Nat.le_trans (List.countP_le_length ..) ?_
      simp) h1 h2 h3 h4
  · cases hrun

end
end Go.Exe
namespace Go.Exe
open Go

/-! ### Back to names that were there -/
mutual
theorem VR.back {ρ ρ' : Ren} (h : ρ.le ρ') : ∀ (x : SV) (u v : Value), VR ρ x u → VR ρ' x v → VR ρ x v
  | .int _ _, _, _, _, k | .bool _, _, _, _, k | .str _, _, _, _, k | .nilp, _, _, _, k | .nils, _, _, _, k | .nilm, _, _, _, k | .nilf, _, _, _, k | .nili, _, _, _, k | .bad, _, _, _, k => by
    simp only [VR] at k ⊢ <;> exact k
  | .ptr j o, _, _, hx, hy => by
    simp only [VR] at hx hy ⊢
    obtain ⟨p, a, _⟩ := hx
    obtain ⟨q, b, e⟩ := hy
    rw [h _ _ a] at b; cases b
    exact ⟨p, a, e⟩
  | .sl j o n c, _, _, hx, hy => by
    simp only [VR] at hx hy ⊢
    obtain ⟨p, a, _⟩ := hx
    obtain ⟨q, b, e⟩ := hy
    rw [h _ _ a] at b; cases b
    exact ⟨p, a, e⟩
  | .sx j o n c, _, _, hx, hy => by
    simp only [VR] at hx hy ⊢
    obtain ⟨p, _, _, a, _⟩ := hx
    obtain ⟨q, ad, c, b, e⟩ := hy
    rw [h _ _ a] at b; cases b
    exact ⟨p, ad, c, a, e⟩
  | .mp j, _, _, hx, hy => by
    simp only [VR] at hx hy ⊢
    obtain ⟨p, a, _⟩ := hx
    obtain ⟨q, b, e⟩ := hy
    rw [h _ _ a] at b; cases b
    exact ⟨p, a, e⟩
  | .fn f a c, _, _, hx, hy => by
    simp only [VR] at hx hy ⊢
    obtain ⟨xs, ys, _, h1, h2⟩ := hx
    obtain ⟨xs', ys', e, k1, k2⟩ := hy
    exact ⟨xs', ys', e, VRL.back h a xs xs' h1 k1, VRL.back h c ys ys' h2 k2⟩
  | .iface t x, _, _, hx, hy => by
    simp only [VR] at hx hy ⊢
    obtain ⟨y, _, h1⟩ := hx
    obtain ⟨y', e, k1⟩ := hy
    exact ⟨y', e, VR.back h x y y' h1 k1⟩
  | .agg l, _, _, hx, hy => by
    simp only [VR] at hx hy ⊢
    obtain ⟨y, _, h1, _⟩ := hx
    obtain ⟨y', e, k1, k2⟩ := hy
    exact ⟨y', e, VRL.back h l y y' h1 k1, k2⟩
  | .tup l, _, _, hx, hy => by
    simp only [VR] at hx hy ⊢
    obtain ⟨y, _, h1⟩ := hx
    obtain ⟨y', e, k1⟩ := hy
    exact ⟨y', e, VRL.back h l y y' h1 k1⟩
theorem VRL.back {ρ ρ' : Ren} (h : ρ.le ρ') : ∀ (x : List SV) (u v : List Value), VRL ρ x u → VRL ρ' x v → VRL ρ x v
  | [], _, _, _, k => by simpa only [VRL] using k
  | x :: xs, _, _, hx, hy => by
    simp only [VRL] at hx hy ⊢
    obtain ⟨v, vs, _, h1, h2⟩ := hx
    obtain ⟨v', vs', e, k1, k2⟩ := hy
    exact ⟨v', vs', e, VR.back h x v v' h1 k1, VRL.back h xs vs vs' h2 k2⟩
end
theorem ERL.back {ρ ρ' : Ren} (h : ρ.le ρ') : ∀ (es : List (SV × SV × Nat)) (ms ns : List MapEntry), ERL ρ es ms → ERL ρ' es ns → ERL ρ es ns
  | [], _, _, _, k => k
  | _ :: es, _, _, hx, hy => by
    obtain ⟨m, ms, _, h1, h2, h3, h4⟩ := hx
    obtain ⟨m', ms', e, k1, k2, k3, k4⟩ := hy
    exact ⟨m', ms', e, VR.back h _ _ _ h1 k1, VR.back h _ _ _ h2 k2, k3, ERL.back h es ms ms' h4 k4⟩
theorem ObjR.back {ρ ρ' : Ren} (h : ρ.le ρ') {p : Loc} {x : SO} {o o' : Obj} (hx : ObjR ρ p x o) (hy : ObjR ρ' p x o') : ObjR ρ p x o' := by
  cases x with
  | no => exact trivial
  | dead => exact trivial
  | cells t l =>
    obtain ⟨a, _, _, _, h3, _⟩ := hx
    obtain ⟨a', e, k1, k2, k3, k4⟩ := hy
    exact ⟨a', e, k1, k2, h3.back h _ _ _ k3, k4⟩
  | ro l =>
    obtain ⟨a, t, fr, _, _, _, h3, _⟩ := hx
    obtain ⟨a', t', fr', e, k1, k2, k3, k4⟩ := hy
    exact ⟨a', t', fr', e, k1, k2, h3.back h _ _ _ k3, k4⟩
  | mapU es =>
    obtain ⟨a, c, ms, _, h1, _⟩ := hx
    obtain ⟨a', c', ms', e, k1, k2⟩ := hy
    exact ⟨a', c', ms', e, h1.back h _ _ _ k1, k2⟩
  | map es c =>
    obtain ⟨a, _, h1⟩ := hx
    obtain ⟨a', e, k1⟩ := hy
    exact ⟨a', e, h1.back h _ _ _ k1⟩
  | sit s q => exact hy
  | mit m since seen stepped =>
    obtain ⟨r, _, _, h1⟩ := hx
    obtain ⟨r', e, h0, k1⟩ := hy
    refine ⟨r', e, h0, ?_⟩
    cases m with
    | none => exact k1
    | some j =>
      obtain ⟨q, a, _⟩ := h1
      obtain ⟨q', b, e'⟩ := k1
      rw [h _ _ a] at b; cases b
      exact ⟨q, a, e'⟩
  | mitL m b clk =>
    obtain ⟨q, _, _, a, _⟩ := hx
    obtain ⟨q', si, se, b, h0, e, f⟩ := hy
    rw [h _ _ a] at b; cases b
    exact ⟨q, si, se, a, h0, e, f⟩

def exOf : Ex → Exit
  | .normal => .normal
  | .exit n => .exit n
  | .ret => .ret

/-- what code does not write is as it was -/
def FrC (c : Code) (a a' : Act) : Prop := ∀ t, t ∉ dsts c → a'.tmps.getD t undef = a.tmps.getD t undef

/-- code is followed rightly -/
def CodeOk (P : Program) (n : Nat) (c : Code) (run : Tm → ST → R) : Prop :=
  ∀ (tm : Tm) (s : ST) (e : Ex) (tm' : Tm) (s' : ST), run tm s = .ok e tm' s' → ∀ (C : Ctx) (ρ : Ren) (a : Act) (w : World), TmR ρ n tm a → Ok C ρ s w → s.lo ≤ s.next →
    ∀ Q : Exit → Act → World → Prop, (∀ ρ' a' w', Ext s s' ρ ρ' → TmR ρ' n tm' a' → a'.defers = a.defers → FrC c a a' → Ok C ρ' s' w' → Q (exOf e) a' w') → c.wp P Q a w

section
variable {P : Program} {K : CallF} {E : Env} {n : Nat}

theorem then_ok {r : R} {k : Tm → ST → R} {e : Ex} {tm : Tm} {s : ST} (h : r.then k = .ok e tm s) : (∃ tm1 s1, r = .ok .normal tm1 s1 ∧ k tm1 s1 = .ok e tm s) ∨ (e ≠ .normal ∧ r = .ok e tm s) := by
  cases r with
  | no => cases h
  | ok e1 tm1 s1 =>
    cases e1 with
    | normal => exact .inl ⟨tm1, s1, rfl, h⟩
    | exit m => cases h; exact .inr ⟨by simp, rfl⟩
    | ret => cases h; exact .inr ⟨by simp, rfl⟩
theorem leave_ok {r : R} {id : Nat} {e : Ex} {tm : Tm} {s : ST} (h : r.leave id = .ok e tm s) : ∃ e1, r = .ok e1 tm s ∧ ((e1 = .normal ∧ e = .normal) ∨ (e1 = .exit id ∧ e = .normal) ∨ (∃ m, e1 = .exit m ∧ m ≠ id ∧ e = .exit m) ∨ (e1 = .ret ∧ e = .ret)) := by
  cases r with
  | no => cases h
  | ok e1 tm1 s1 =>
    cases e1 with
    | normal => cases h; exact ⟨.normal, rfl, .inl ⟨rfl, rfl⟩⟩
    | exit m =>
      have h' : Bool.rec (motive := fun _ => R) (.ok (.exit m) tm1 s1) (.ok .normal tm1 s1) (Nat.beq m id) = .ok e tm s := h
      cases hb : Nat.beq m id with
      | true => rw [hb] at h'; cases h'; exact ⟨.exit m, rfl, .inr (.inl ⟨by rw [Nat.eq_of_beq_eq_true hb], rfl⟩)⟩
      | false => rw [hb] at h'; cases h'; exact ⟨.exit m, rfl, .inr (.inr (.inl ⟨m, rfl, fun e => (by rw [beqT e] at hb; cases hb), rfl⟩))⟩
    | ret => cases h; exact ⟨.ret, rfl, .inr (.inr (.inr ⟨rfl, rfl⟩))⟩

theorem FrC.refl (c : Code) (a : Act) : FrC c a a := fun _ _ => rfl

theorem mem_dstsOps : ∀ {l : List Oper} {o : Oper} {t : Nat}, o ∈ l → o.dst = some t → t ∈ dstsOps l
  | [], o, t, h, _ => by simp at h
  | x :: l, o, t, h, hd => by
    unfold dstsOps
    rcases List.mem_cons.1 h with rfl | h
    · rw [hd]; simp
    · have ih := mem_dstsOps h hd
      split
      · simp [ih]
      · exact ih
theorem dstOk_region {id : Nat} {ops : Array Oper} {d : Bool} (h : ∀ t ∈ dsts (.region id ops d), t < n) : DstOk n ops := fun i o t ho ht =>
  h t (mem_dstsOps (by rw [← Array.getElem?_toList] at ho; exact List.mem_of_getElem? ho) ht)
theorem frm_region {id : Nat} {ops : Array Oper} {d : Bool} {a a' : Act} (h : Frm ops (fun t => a.tmps.getD t undef) a') : FrC (.region id ops d) a a' := fun t ht =>
  h t fun i o ho hd => ht (mem_dstsOps (by rw [← Array.getElem?_toList] at ho; exact List.mem_of_getElem? ho) hd)

theorem lon_ext {s s' : ST} {ρ ρ' : Ren} (h : Ext s s' ρ ρ') (hl : s.lo ≤ s.next) : s'.lo ≤ s'.next := by rw [h.lo]; exact Nat.le_trans hl h.next

theorem CodeOk.seq {x y : Code} {f g : Tm → ST → R} (hx : CodeOk P n x f) (hy : CodeOk P n y g) : CodeOk P n (.seq x y) fun tm s => (f tm s).then g := by
  intro tm s e tm' s' hrun C ρ a w htm hok hlo Q hQ
  refine wp_seq ?_
  rcases then_ok hrun with ⟨tm1, s1, h1, h2⟩ | ⟨hne, h1⟩
  · refine hx tm s _ tm1 s1 h1 C ρ a w htm hok hlo _ fun ρ1 a1 w1 e1 t1 d1 f1 o1 => ?_
    refine hy tm1 s1 e tm' s' h2 C ρ1 a1 w1 t1 o1 (lon_ext e1 hlo) Q fun ρ2 a2 w2 e2 t2 d2 f2 o2 => ?_
    exact hQ ρ2 a2 w2 (e1.trans e2) t2 (d2.trans d1) (fun t ht => (f2 t (fun hh => ht (by simp [dsts, hh]))).trans (f1 t (fun hh => ht (by simp [dsts, hh])))) o2
  · refine hx tm s e tm' s' h1 C ρ a w htm hok hlo _ fun ρ1 a1 w1 e1 t1 d1 f1 o1 => ?_
    have := hQ ρ1 a1 w1 e1 t1 d1 (fun t ht => f1 t (fun hh => ht (by simp [dsts, hh]))) o1
    cases e with
    | normal => exact absurd rfl hne
    | exit m => exact this
    | ret => exact this

/-- a loop, round by round -/
theorem loopN_ok {c : Code} {d : CallF → Tm → ST → R} (hd : CodeOk P n c (d K)) : ∀ k : Nat, CodeOk P n (.loop c) (loopN d k K) := by
  have key : ∀ (k : Nat) (tm : Tm) (s : ST) (e : Ex) (tm' : Tm) (s' : ST), loopN d k K tm s = .ok e tm' s' → ∀ (C : Ctx) (ρ : Ren) (a : Act) (w : World), TmR ρ n tm a → Ok C ρ s w → s.lo ≤ s.next →
      ∀ Q : Exit → Act → World → Prop, (∀ ρ' a' w', Ext s s' ρ ρ' → TmR ρ' n tm' a' → a'.defers = a.defers → FrC (.loop c) a a' → Ok C ρ' s' w' → Q (exOf e) a' w') →
      ∀ (b : Frame) (kk : List Item) (cs : List Frame), ∃ e a' w', Q e a' w' ∧ Arrives P (lone (b.at a (.code c :: .inLoop c :: kk)) cs w) b kk cs e a' w' := by
    intro k
    induction k with
    | zero => intro tm s e tm' s' h; cases h
    | succ k ih =>
      intro tm s e tm' s' hrun C ρ a w htm hok hlo Q hQ b kk cs
      have hrun : (d K tm s).then (loopN d k K) = .ok e tm' s' := hrun
      rcases then_ok hrun with ⟨tm1, s1, h1, h2⟩ | ⟨hne, h1⟩
      · obtain ⟨e1, a1, w1, hq, harr⟩ := hd tm s _ tm1 s1 h1 C ρ a w htm hok hlo (fun e1 a1 w1 => e1 = .normal ∧ ∃ ρ1, Ext s s1 ρ ρ1 ∧ TmR ρ1 n tm1 a1 ∧ a1.defers = a.defers ∧ FrC c a a1 ∧ Ok C ρ1 s1 w1)
          (fun ρ1 a1 w1 e1 t1 d1 f1 o1 => ⟨rfl, ρ1, e1, t1, d1, f1, o1⟩) b (.inLoop c :: kk) cs
        obtain ⟨rfl, ρ1, x1, t1, d1, f1, o1⟩ := hq
        obtain ⟨e2, a2, w2, hq2, harr2⟩ := ih tm1 s1 e tm' s' h2 C ρ1 a1 w1 t1 o1 (lon_ext x1 hlo) Q (fun ρ2 a2 w2 e2 t2 d2 f2 o2 => hQ ρ2 a2 w2 (x1.trans e2) t2 (d2.trans d1) (fun t ht => (f2 t ht).trans (f1 t ht)) o2) b kk cs
        exact ⟨e2, a2, w2, hq2, .of_steps (Steps.trans harr (.one step_inLoop)) harr2⟩
      · obtain ⟨e1, a1, w1, hq, harr⟩ := hd tm s e tm' s' h1 C ρ a w htm hok hlo (fun e1 a1 w1 => e1 = exOf e ∧ Q e1 a1 w1)
          (fun ρ1 a1 w1 e1 t1 d1 f1 o1 => ⟨rfl, hQ ρ1 a1 w1 e1 t1 d1 f1 o1⟩) b (.inLoop c :: kk) cs
        obtain ⟨rfl, hq⟩ := hq
        refine ⟨_, a1, w1, hq, ?_⟩
        cases e with
        | normal => exact absurd rfl hne
        | exit m => exact .pass (x := .inLoop c) rfl (fun _ _ => .inl (by simp [exOf])) harr
        | ret => exact .pass (x := .inLoop c) rfl (fun _ _ => .inl (by simp [exOf])) harr
  intro k tm s e tm' s' hrun C ρ a w htm hok hlo Q hQ b kk cs
  obtain ⟨e1, a1, w1, hq, harr⟩ := key k tm s e tm' s' hrun C ρ a w htm hok hlo Q hQ b kk cs
  exact ⟨e1, a1, w1, hq, .of_steps (.one step_loop) harr⟩

/-! ### A step of a range over a map, whichever entry it takes -/
theorem next_any {w : World} {b mb c : Nat} {seen : Array Nat} {arr : Array MapEntry} (hit : w.heap[b]? = some (.mapIter (some mb) c seen c)) (hmap : w.heap[mb]? = some (.map arr c)) (hborn : ∀ m ∈ arr.toList, m.born < c) (ty : Nat) :
    ∃ v w', (Instr.next (.pointer (some ⟨b, 0, none⟩)) false ty).run P w = .ok v w' ∧
      ((v = .tuple #[.bool false] ∧ (w' = w ∨ w' = w.drew)) ∨
       ∃ (i : Nat) (m : MapEntry), arr[i]? = some m ∧ seen.contains m.born = false ∧ v = .tuple #[.bool true, m.key, m.val] ∧ ∃ w0, (w0 = w ∨ w0 = w.drew) ∧ w' = { w0 with heap := w.heap.setIfInBounds b (.mapIter (some mb) c (seen.push m.born) c) }) := by
  have hget : (getObj b).run P w = .ok (.mapIter (some mb) c seen c) w := by simp [getObj, Sem.run, hit]
  have hgetm := get_map (P := P) hmap
  have hhead : ∀ bb : Bool, (bb && !arr.isEmpty && arr.all (fun e => decide (e.born ≥ c))) = false := by
    intro bb
    cases hl : arr.toList with
    | nil =>
      have : arr = #[] := Array.ext' hl
      subst this
      simp
    | cons m ms =>
      have hm := hborn m (by rw [hl]; simp)
      have : arr = ⟨m :: ms⟩ := Array.ext' hl
      subst this
      have hn : ¬ (m.born ≥ c) := by omega
      simp [hn]
  have hfo : (arr.filter fun e => !seen.contains e.born).filter (fun x => decide (x.born < c)) = arr.filter fun e => !seen.contains e.born := by
    apply Array.ext'
    rw [Array.toList_filter, List.filter_eq_self]
    intro m hm
    have : m ∈ arr := (Array.mem_filter.1 (Array.mem_toList_iff.1 hm)).1
    simpa using hborn m (by simpa using this)
  have hfn : (arr.filter fun e => !seen.contains e.born).filter (fun x => decide (x.born ≥ c)) = #[] := by
    apply Array.ext'
    rw [Array.toList_filter]
    show _ = []
    rw [List.filter_eq_nil_iff]
    intro m hm
    have : m ∈ arr := (Array.mem_filter.1 (Array.mem_toList_iff.1 hm)).1
    have := hborn m (by simpa using this)
    simp
    omega
  by_cases hL : (arr.filter fun e => !seen.contains e.born) = #[]
  · refine ⟨.tuple #[.bool false], w, ?_, .inl ⟨rfl, .inl rfl⟩⟩
    unfold Instr.next
    simp only [Sem.run_bind, hget, Result.andThen_ok, hgetm, hhead, Bool.false_eq_true, if_false, hL]
    simp [Question.forced, choose, Sem.run]
  · have hpos : 0 < (arr.filter fun e => !seen.contains e.born).size := by
      rcases Nat.eq_zero_or_pos (arr.filter fun e => !seen.contains e.born).size with h | h
      · exact absurd (Array.eq_empty_of_size_eq_zero h) hL
      · exact h
    generalize hleft : (arr.filter fun e => !seen.contains e.born) = left at *
    obtain ⟨k, w0, hk, hw0, hch⟩ : ∃ k w0, k < left.size ∧ (w0 = w ∨ w0 = w.drew) ∧ (choose (.mapNext left.size)).run P w = .ok k w0 := by
      by_cases hf : left.size ≤ 1
      · exact ⟨0, w, hpos, .inl rfl, by simp [choose, Sem.run, Question.forced, hf]⟩
      · refine ⟨w.tape w.drawn (.mapNext left.size) % left.size, w.drew, Nat.mod_lt _ hpos, .inr rfl, ?_⟩
        simp [choose, Sem.run, Question.forced, hf, Question.cut]
    have hmem : left[k] ∈ arr.filter fun e => !seen.contains e.born := by rw [hleft]; exact Array.getElem_mem hk
    obtain ⟨h1, h2⟩ := Array.mem_filter.1 hmem
    obtain ⟨i, hi, he⟩ := Array.mem_iff_getElem.1 h1
    have hset : (setObj b (.mapIter (some mb) c (seen.push left[k].born) c)).run P w0 = .ok () { w0 with heap := w.heap.setIfInBounds b (.mapIter (some mb) c (seen.push left[k].born) c) } := by
      have hset1 : ∀ w1 : World, w1.heap = w.heap → (setObj b (.mapIter (some mb) c (seen.push left[k].born) c)).run P w1 = .ok () { w1 with heap := w.heap.setIfInBounds b (.mapIter (some mb) c (seen.push left[k].born) c) } := by
        intro w1 hw1
        have hit1 : w1.heap[b]? = some (.mapIter (some mb) c seen c) := by rw [hw1]; exact hit
        simp [setObj, Sem.run, hw1, hit]
      rcases hw0 with rfl | rfl
      · exact hset1 _ rfl
      · exact hset1 _ rfl
    refine ⟨.tuple #[.bool true, left[k].key, left[k].val], { w0 with heap := w.heap.setIfInBounds b (.mapIter (some mb) c (seen.push left[k].born) c) }, ?_, .inr ⟨i, left[k], by simp [hi, he], by simpa using h2, rfl, w0, hw0, rfl⟩⟩
    unfold Instr.next
    simp only [Sem.run_bind, hget, Result.andThen_ok, hgetm, hhead, Bool.false_eq_true, if_false, hleft, hfo, hfn]
    have hemp : left.isEmpty = false := by
      cases h : left.isEmpty with
      | false => rfl
      | true => rw [Array.isEmpty_iff] at h; exact absurd h hL
    simp only [hemp, Bool.false_eq_true, if_false, Array.append_empty, Array.empty_append, Array.size_map, hch, Result.andThen_ok]
    simp [hk, hset]

end
end Go.Exe
namespace Go.Exe
open Go

theorem countP_less {α : Type} {p q : α → Bool} : ∀ {l : List α}, (∀ x ∈ l, q x = true → p x = true) → ∀ i ∈ l, p i = true → q i = false → l.countP q < l.countP p
  | [], _, i, hi, _, _ => by simp at hi
  | x :: l, hpq, i, hi, h1, h2 => by
    have hle : l.countP q ≤ l.countP p := List.countP_mono_left fun x hx => hpq x (by simp [hx])
    rcases List.mem_cons.1 hi with rfl | hi
    · rw [List.countP_cons_of_pos h1, List.countP_cons_of_neg (by rw [h2]; simp)]
      omega
    · have ih := countP_less (l := l) (fun x hx => hpq x (by simp [hx])) i hi h1 h2
      rw [List.countP_cons, List.countP_cons]
      have := hpq x (by simp)
      cases hq : q x <;> cases hp : p x <;> simp_all <;> omega

theorem Ok.congr {C : Ctx} {ρ : Ren} {s t : ST} {w : World} (h : Ok C ρ s w) (hn : t.next = s.next) (hg : ∀ i, i < 32768 → t.heap.get i = s.heap.get i) : Ok C ρ t w := by
  have hlt : ∀ i q, ρ i = some q → i < 32768 := fun i q hq => Nat.lt_of_lt_of_le (h.dom i q hq) h.bound
  refine ⟨h.os, h.tape, h.output, fun i q hq hi => ?_, fun i k q r hq hr hi hk => ?_, fun b o hF => ⟨(h.far b o hF).1, fun i q hq hi => ?_⟩, fun i q hq => by rw [hn]; exact h.dom i q hq, by rw [hn]; exact h.bound, fun i q o hq hi => ?_⟩
  · rw [hg i (hlt i q hq)] at hi ⊢; exact h.obj i q hq hi
  · rw [hg i (hlt i q hq)] at hi
    rw [hg k (hlt k r hr)] at hk
    exact h.inj i k q r hq hr hi hk
  · rw [hg i (hlt i q hq)] at hi; exact (h.far b o hF).2 i q hq hi
  · rw [hg i (hlt i q hq)] at hi; exact h.itr i q o hq hi

/-- an iterator's block is written, and looked at from now on -/
theorem Ok.writeL {C : Ctx} {ρ : Ren} {s : ST} {w : World} (h : Ok C ρ s w) {j : Nat} {p : Loc} (hp : ρ j = some p) (hl : (s.heap.get j).live = true) {x : SO} {o : Obj}
    (hx : ObjR ρ p x o) : Ok { C with it := fun k => if k = j then some o else C.it k } ρ ⟨s.heap.set j x, s.next, s.lo, s.it⟩ { w with heap := w.heap.setIfInBounds p.blk o } := by
  have hj : j < 32768 := Nat.lt_of_lt_of_le (h.dom j p hp) h.bound
  have hlive : ∀ i q, ρ i = some q → ((s.heap.set j x).get i).live = true → (s.heap.get i).live = true := by
    intro i q hq hi
    by_cases e : i = j
    · subst e; exact hl
    · rwa [H3.get_set_ne _ _ hj (Nat.lt_of_lt_of_le (h.dom i q hq) h.bound) e] at hi
  have hb := h.blk_lt hp hl
  refine ⟨h.os, h.tape, h.output, ?_, ?_, ?_, h.dom, h.bound, ?_⟩
  · intro i q hq hi
    by_cases e : i = j
    · subst e
      rw [hp] at hq
      cases hq
      refine ⟨o, by simp [hb], ?_⟩
      show ObjR ρ p ((s.heap.set i x).get i) o
      rw [H3.get_set_same _ _ hj]
      exact hx
    · have hi' := hlive i q hq hi
      obtain ⟨oi, h1, h2⟩ := h.obj i q hq hi'
      have hne : q.blk ≠ p.blk := fun hb => e (h.inj i j q p hq hp hi' hl hb)
      refine ⟨oi, ?_, ?_⟩
      · show (w.heap.setIfInBounds p.blk o)[q.blk]? = some oi
        rw [Array.getElem?_setIfInBounds_ne (Ne.symm hne)]
        exact h1
      · show ObjR ρ q ((s.heap.set j x).get i) oi
        rw [H3.get_set_ne _ _ hj (Nat.lt_of_lt_of_le (h.dom i q hq) h.bound) e]
        exact h2
  · exact fun i k q r hq hr hi hk => h.inj i k q r hq hr (hlive i q hq hi) (hlive k r hr hk)
  · intro b ob hF
    obtain ⟨h1, h2⟩ := h.far b ob hF
    refine ⟨?_, fun i q hq hi => h2 i q hq (hlive i q hq hi)⟩
    show (w.heap.setIfInBounds p.blk o)[b]? = some ob
    rw [Array.getElem?_setIfInBounds_ne (h2 j p hp hl)]
    exact h1
  · intro i q ob hq hi hC
    by_cases e : i = j
    · subst e
      rw [hp] at hq
      cases hq
      have hC : (if i = i then some o else C.it i) = some ob := hC
      rw [if_pos rfl] at hC
      cases hC
      simp [hb]
    · have hC : (if i = j then some o else C.it i) = some ob := hC
      rw [if_neg e] at hC
      have hi : ((s.heap.set j x).get i).isL = true := hi
      rw [H3.get_set_ne _ _ hj (Nat.lt_of_lt_of_le (h.dom i q hq) h.bound) e] at hi
      have hne : q.blk ≠ p.blk := fun hb => e (h.inj i j q p hq hp (SO.live_of_isL hi) hl hb)
      show (w.heap.setIfInBounds p.blk o)[q.blk]? = some ob
      rw [Array.getElem?_setIfInBounds_ne (Ne.symm hne)]
      exact h.itr i q ob hq hi hC

/-! ### What stands in a loop over a map -/
theorem iterOf_ok {c rest : Code} {t d e : Nat} (h : iterOf c = some (t, d, e, rest)) : ∃ id ops o q, c = .seq (.region id ops false) rest ∧ ops = #[o, q] ∧ o.guard = none ∧ q.guard = none ∧ o.op = .next (.tmp t) false ∧ o.dst = some d ∧
    q.op = .extract (.tmp d) 0 ∧ q.dst = some e ∧ t < 512 ∧ d < 512 := by
  unfold iterOf at h
  split at h
  · rename_i id ops r
    split at h
    · rename_i o q hops
      split at h
      · rename_i g1 g2
        split at h
        · rename_i t' d1 d2 e' h1 h2 h3 h4
          split at h
          · rename_i hb
            cases h
            simp only [Bool.and_eq_true] at hb
            have := Nat.eq_of_beq_eq_true hb.1
            subst this
            exact ⟨id, ops, o, q, rfl, Array.ext' hops, g1, g2, h1, h2, h3, h4, by simpa [Nat.blt_eq] using hb.2.1, by simpa [Nat.blt_eq] using hb.2.2⟩
          · cases h
        · cases h
      · cases h
    · cases h
  · cases h

theorem differ_mem {a b : Tm} : ∀ {l : List Nat} {u : Nat}, u ∈ differ a b l → u ∈ l
  | [], u, h => by simp [differ] at h
  | d :: l, u, h => by
    unfold differ at h
    split at h
    · simp [differ_mem h]
    · rcases List.mem_cons.1 h with rfl | h
      · simp
      · simp [differ_mem h]
theorem differ_nil {a b : Tm} : ∀ {l : List Nat}, isEmptyL (differ a b l) = true → ∀ u ∈ l, (getB u).f a = (getB u).f b
  | [], _, u, hu => by simp at hu
  | d :: l, h, u, hu => by
    unfold differ at h
    split at h
    · rename_i hs
      rcases List.mem_cons.1 hu with rfl | hu
      · exact same_eq _ _ hs
      · exact differ_nil h u hu
    · cases h
theorem without_mem {x : List Nat} : ∀ {l : List Nat} {u : Nat}, u ∈ l → u ∉ x → u ∈ without x l
  | [], u, h, _ => by simp at h
  | d :: l, u, h, hx => by
    unfold without
    rcases List.mem_cons.1 h with rfl | h
    · have : (x.any fun b => Nat.beq b u) = false := by
        rw [List.any_eq_false]
        intro b hb hh
        exact hx (Nat.eq_of_beq_eq_true hh ▸ hb)
      rw [this]
      simp
    · have ih := without_mem h hx
      split
      · exact ih
      · simp [ih]
theorem blank_get : ∀ {l : List Nat} {tm : Tm}, (∀ u ∈ l, u < 512) → ∀ t, t < 512 → (getB t).f (blank l tm) = if t ∈ l then .bad else (getB t).f tm
  | [], tm, _, t, ht => by simp [blank]
  | d :: l, tm, hl, t, ht => by
    unfold blank
    rw [blank_get (fun u hu => hl u (by simp [hu])) t ht]
    by_cases h1 : t ∈ l
    · rw [if_pos h1, if_pos (by simp [h1])]
    · rw [if_neg h1]
      by_cases h2 : t = d
      · subst h2
        rw [get_put_same _ _ ht, if_pos (by simp)]
      · rw [get_put_ne _ _ (hl d (by simp)) ht h2, if_neg (by simp [h1, h2])]
theorem TmR.blank {ρ : Ren} {n : Nat} {tm : Tm} {a : Act} (h : TmR ρ n tm a) {l : List Nat} (hl : ∀ u ∈ l, u < 512) : TmR ρ n (blank l tm) a := by
  refine ⟨h.size, h.small, fun t ht => ?_⟩
  rw [blank_get hl t ht]
  split
  · simp [VR]
  · exact h.rel t ht

theorem bornLt_ok {c : Nat} : ∀ {es : List (SV × SV × Nat)}, bornLt c es = true → ∀ e ∈ es, e.2.2 < c
  | [], _, e, he => by simp at he
  | x :: es, h, e, he => by
    unfold bornLt at h
    simp only [Bool.and_eq_true] at h
    rcases List.mem_cons.1 he with rfl | he
    · simpa [Nat.blt_eq] using h.1
    · exact bornLt_ok h.2 e he

theorem roundsN_ok {d : CallF → Tm → ST → R} {K : CallF} {p q : SV → Tm → Tm} {tm : Tm} {ks : List Nat} {h : H3} {next j m clk : Nat} : ∀ {es : List (SV × SV × Nat)}, roundsN d K p q tm ks h next j m clk es = true → ∀ e ∈ es,
    ∃ tm' s', d K (q (.bool true) (p (.tup [.bool true, e.1, e.2.1]) tm)) ⟨h.set j (.mitL m e.2.2 clk), next, next, next⟩ = .ok .normal tm' s' ∧ ∀ u ∈ ks, (getB u).f tm = (getB u).f tm'
  | [], _, e, he => by simp at he
  | x :: es, hh, e, he => by
    unfold roundsN at hh
    split at hh
    · rename_i tm' s' hd
      split at hh
      · rename_i hdiff
        rcases List.mem_cons.1 he with rfl | he
        · exact ⟨tm', s', hd, differ_nil hdiff⟩
        · exact roundsN_ok hh e he
      · cases hh
    · cases hh

theorem changed_mem {d : CallF → Tm → ST → R} {K : CallF} {p q : SV → Tm → Tm} {tm : Tm} {ds : List Nat} {h : H3} {next j m clk : Nat} {e : SV × SV × Nat} {u : Nat} (hu : u ∈ changed d K p q tm ds h next j m clk e) : u ∈ ds := by
  unfold changed at hu
  split at hu
  · exact differ_mem hu
  · simp at hu

theorem ERL.getR {ρ : Ren} {es : List (SV × SV × Nat)} {ms : List MapEntry} (h : ERL ρ es ms) {i : Nat} {m : MapEntry} (hm : ms[i]? = some m) : ∃ e, es[i]? = some e ∧ VR ρ e.1 m.key ∧ VR ρ e.2.1 m.val ∧ m.born = e.2.2 := by
  have hl := h.length
  have hi : i < ms.length := by
    rcases Nat.lt_or_ge i ms.length with h' | h'
    · exact h'
    · rw [List.getElem?_eq_none h'] at hm; cases hm
  obtain ⟨m', e1, e2⟩ := h.get i es[i] (by simp)
  rw [hm] at e1
  cases e1
  exact ⟨es[i], by simp, e2⟩

section
variable {P : Program} {K : CallF} {E : Env} {n : Nat}

theorem mapLoop_eq (whole rest : CallF → Tm → ST → R) (t d e : Nat) (ds : List Nat) (tm : Tm) (s : ST) : mapLoop whole rest t d e ds K tm s = match ((getB t).f tm).asPtr with
    | some (j, 0) => match s.heap.get j with
      | .mit (some m) since [] stepped => match s.mapOf m with
        | some (en :: en' :: es, c) => match Nat.beq c stepped && (Nat.beq since c && bornLt c (en :: en' :: es)) with
          | true => match changed rest K (putB d).f (putB e).f tm ds s.heap s.next j m c en with
            | cs => match blank cs tm with
              | tm' => match ptrIs j ((getB t).f tm') with
              | false => .no
              | true => match roundsN rest K (putB d).f (putB e).f tm' (without cs ds) s.heap s.next j m c (en :: en' :: es) with
                | true => match s.put j .dead with
                  | some s => match rest K ((putB e).f (.bool false) ((putB d).f (.tup [.bool false]) tm')) s with
                    | .ok (.exit n) tm s => .ok (.exit n) tm s
                    | _ => .no
                  | none => .no
                | false => .no
          | false => .no
        | _ => loopN whole 5000 K tm s
      | _ => loopN whole 5000 K tm s
    | _ => .no := by
  unfold mapLoop
  generalize getB t = g
  generalize putB d = p
  generalize putB e = q
  obtain ⟨g⟩ := g
  obtain ⟨p⟩ := p
  obtain ⟨q⟩ := q
  rfl

theorem mapLoop_ok {x r : Code} {whole rest : CallF → Tm → ST → R} {t d e : Nat} (hx : CodeOk P n x (whole K)) (hr : CodeOk P n r (rest K)) (hit : iterOf x = some (t, d, e, r)) (hd : ∀ u ∈ dsts x, u < n) (hn5 : n ≤ 512) :
    CodeOk P n (.loop x) (mapLoop whole rest t d e (dsts x) K) := by
  intro tm s ex tmF sF hrun C ρ a w htm hok hlo Q hQ
  rw [mapLoop_eq] at hrun
  split at hrun
  · rename_i j hj
    split at hrun
    · rename_i m since stepped hgj
      split at hrun
      · rename_i en en' es c hm
        split at hrun
        · rename_i hb
          simp only [Bool.and_eq_true] at hb
          obtain ⟨hb1, hb2, hb3⟩ := hb
          have hb1 := Nat.eq_of_beq_eq_true hb1
          have hb2 := Nat.eq_of_beq_eq_true hb2
          subst hb1 hb2
          have hborn := bornLt_ok hb3
          generalize hes : en :: en' :: es = ES at *
          generalize hcs : changed rest K (putB d).f (putB e).f tm (dsts x) s.heap s.next j m since en = cs at *
          have hcsd : ∀ u ∈ cs, u ∈ dsts x := fun u hu => by rw [← hcs] at hu; exact changed_mem hu
          have hcs5 : ∀ u ∈ cs, u < 512 := fun u hu => Nat.lt_of_lt_of_le (hd u (hcsd u hu)) hn5
          have htm' := htm.blank hcs5
          dsimp only at hrun
          split at hrun
          · cases hrun
          · rename_i hptr
            split at hrun
            · rename_i hrounds
              split at hrun
              · rename_i s2 hput
                split at hrun
                · rename_i k tm3 s3 hlast
                  cases hrun
                  -- the pieces of the code
                  obtain ⟨id, ops, o, q, hxe, hops, hg1, hg2, ho1, ho2, hq1, hq2, ht5, hd5⟩ := iterOf_ok hit
                  subst hops
                  have hdn : d < n := hd d (by rw [hxe]; simp [dsts, dstsOps, ho2])
                  have hen : e < n := hd e (by rw [hxe]; simp [dsts, dstsOps, ho2, hq2])
                  have hdstr : ∀ u, u ∉ dsts x → u ≠ d ∧ u ≠ e ∧ u ∉ dsts r := by
                    intro u hu
                    rw [hxe] at hu
                    simp only [dsts, dstsOps, ho2, hq2, List.cons_append, List.nil_append, List.mem_cons, not_or] at hu
                    exact hu
                  -- the iterator, and its map
                  have hpj := htm.rel t ht5
                  rw [asPtr_iff.1 hj, VR.ptr_iff] at hpj
                  obtain ⟨p, hp, _⟩ := hpj
                  have hj3 : j < 32768 := Nat.lt_of_lt_of_le (hok.dom j p hp) hok.bound
                  obtain ⟨oj, hoj, hrj⟩ := hok.obj j p hp (by rw [hgj]; rfl)
                  rw [hgj] at hrj
                  obtain ⟨rr, rfl, hp0, qm, hqm, rfl⟩ := hrj
                  have hm3 : m < 32768 := Nat.lt_of_lt_of_le (hok.dom m qm hqm) hok.bound
                  have hmj : m ≠ j := by
                    rintro rfl
                    have := asMap_iff.1 hm
                    rw [hgj] at this
                    cases this
                  have hptr' : (getB t).f (blank cs tm) = .ptr j 0 := by
                    unfold ptrIs at hptr
                    split at hptr
                    · rename_i i hi
                      have := Nat.eq_of_beq_eq_true hptr
                      subst this
                      exact asPtr_iff.1 hi
                    · cases hptr
                  let sI : List Nat → ST := fun l => ⟨s.heap.set j (.mit (some m) since l since), s.next, s.lo, s.it⟩
                  have hsIj : ∀ l, (sI l).heap.get j = .mit (some m) since l since := fun l => H3.get_set_same _ _ hj3
                  have hsIi : ∀ l i, i < 32768 → i ≠ j → (sI l).heap.get i = s.heap.get i := fun l i hi hne => H3.get_set_ne _ _ hj3 hi hne
                  have hsIm : ∀ l, (sI l).mapOf m = some (ES, since) := by
                    intro l
                    unfold ST.mapOf
                    rw [hsIi l m hm3 hmj]
                    exact hm
                  refine wp_loop (fun a1 w1 => TmR ρ n (blank cs tm) a1 ∧ a1.defers = a.defers ∧ (∀ u, u ∉ dsts x → a1.tmps.getD u undef = a.tmps.getD u undef) ∧ ∃ l, Ok C ρ (sI l) w1)
                    (fun _ w1 => match w1.heap[p.blk]? with | some (.mapIter _ _ seen _) => ES.countP (fun z => !seen.contains z.2.2) | _ => 0) ⟨htm', rfl, fun _ _ => rfl, [], ?_⟩ ?_
                  · refine hok.congr rfl fun i hi => ?_
                    by_cases hij : i = j
                    · subst hij; rw [hsIj, hgj]
                    · exact hsIi [] i hi hij
                  · rintro a1 w1 ⟨ht1, hd1, hf1, l, hok1⟩
                    obtain ⟨oi, hoi, hri⟩ := hok1.obj j p hp (by rw [hsIj]; rfl)
                    rw [hsIj] at hri
                    obtain ⟨r2, rfl, _, qm2, hqm2, rfl⟩ := hri
                    rw [hqm] at hqm2
                    cases hqm2
                    obtain ⟨arr, harr, herl⟩ := hok1.mapAt hqm (hsIm l)
                    have harr : w1.heap[qm.blk]? = some (.map arr since) := harr
                    have hab : ∀ z ∈ arr.toList, z.born < since := by
                      intro z hz
                      obtain ⟨i, hi⟩ := List.mem_iff_getElem?.1 hz
                      obtain ⟨e1, he1, _, _, hbn⟩ := herl.getR hi
                      rw [hbn]
                      exact hborn e1 (List.mem_of_getElem? he1)
                    obtain ⟨v, w2, hnext, hcase⟩ := next_any (P := P) hoi harr hab o.type
                    have hev : a1.eval (.tmp t) = .pointer (some ⟨p.blk, 0, none⟩) := by
                      have := ht1.rel t ht5
                      rw [hptr', VR.ptr_iff] at this
                      obtain ⟨p', hp', e2⟩ := this
                      rw [hp] at hp'
                      cases hp'
                      rw [hp0] at e2
                      exact e2
                    -- both operations ahead of the rest
                    have head : ∀ (bv : Bool) (sv : SV) (vs : List Value), v = .tuple ⟨.bool bv :: vs⟩ → VR ρ sv v → ∀ Q1 : Exit → Act → World → Prop,
                        (TmR ρ n ((putB e).f (.bool bv) ((putB d).f sv (blank cs tm))) ((a1.put (some d) v).put (some e) (.bool bv)) → r.wp P Q1 ((a1.put (some d) v).put (some e) (.bool bv)) w2) → x.wp P Q1 a1 w1 := by
                      intro bv sv vs hv hsv Q1 hk
                      rw [hxe]
                      refine wp_seq (wp_region ?_)
                      have h0 : (#[o, q] : Array Oper)[0]? = some o := rfl
                      have h1 : (#[o, q] : Array Oper)[1]? = some q := rfl
                      show wpOps P #[o, q] _ [0, 1] a1 w1
                      simp only [wpOps, h0, h1]
                      rw [if_pos (by simp [Region.wanted, hg1])]
                      refine .inl (wp_value (v' := v) (w' := w2) ?_ ?_)
                      · simp only [execOp, ho1, hev]
                        rw [Sem.run_bind, hnext]
                        rfl
                      · rw [if_pos (by simp [Region.wanted, hg2]), ho2]
                        refine .inl (wp_value (v' := .bool bv) (w' := w2) ?_ ?_)
                        · have he2 : (a1.put (some d) v).eval (.tmp d) = v := getD_put_same (by rw [ht1.size]; exact hdn)
                          simp only [execOp, hq1]
                          rw [he2, hv]
                          rfl
                        · rw [hq2]
                          exact hk ((ht1.put hdn hsv).put hen (VR.bool_iff.2 rfl))
                    have hfr2 : ∀ (bv : Bool) u, u ∉ dsts x → ((a1.put (some d) v).put (some e) (.bool bv)).tmps.getD u undef = a.tmps.getD u undef := by
                      intro bv u hu
                      obtain ⟨u1, u2, _⟩ := hdstr u hu
                      rw [getD_put_ne u2, getD_put_ne u1]
                      exact hf1 u hu
                    rcases hcase with ⟨rfl, hw2⟩ | ⟨i, mm, hmi, hseen, rfl, w0, hw0, hw2⟩
                    · -- it is over
                      refine head false (.tup [.bool false]) [] rfl (VR.tup_iff.2 ⟨_, rfl, .cons (VR.bool_iff.2 rfl) .nil⟩) _ fun ht2 => ?_
                      have hok2 : Ok C ρ (sI l) w2 := by
                        rcases hw2 with rfl | rfl
                        · exact hok1
                        · exact hok1.drew
                      have hext2 := Ext.put hok hput hj3
                      obtain ⟨rfl, _⟩ := put_ok hput
                      have hok3 : Ok C ρ ⟨s.heap.set j .dead, s.next, s.lo, s.it⟩ w2 := by
                        refine (hok2.kill hj3).congr rfl fun i hi => ?_
                        by_cases hij : i = j
                        · subst hij
                          show (s.heap.set i .dead).get i = ((sI l).heap.set i .dead).get i
                          rw [H3.get_set_same _ _ hj3, H3.get_set_same _ _ hj3]
                        · show (s.heap.set j .dead).get i = ((sI l).heap.set j .dead).get i
                          rw [H3.get_set_ne _ _ hj3 hi hij, H3.get_set_ne _ _ hj3 hi hij, hsIi l i hi hij]
                      refine hr _ _ _ _ _ hlast C ρ _ w2 ht2 hok3 hlo _ fun ρ' a' w' x1 x2 x3 x4 x5 => ?_
                      refine hQ ρ' a' w' (hext2.trans x1) x2 (x3.trans (by rw [defers_put, defers_put]; exact hd1)) (fun u hu => ?_) x5
                      have hu' : u ∉ dsts x := hu
                      rw [x4 u (hdstr u hu').2.2]
                      exact hfr2 false u hu'
                    · -- an entry
                      have hmi' : arr.toList[i]? = some mm := by rw [Array.getElem?_toList]; exact hmi
                      obtain ⟨e1, he1, hk1, hv1, hbn⟩ := herl.getR hmi'
                      have he1m : e1 ∈ ES := List.mem_of_getElem? he1
                      obtain ⟨tm2, s3', hround, hks⟩ := roundsN_ok hrounds e1 he1m
                      refine head true (.tup [.bool true, e1.1, e1.2.1]) [mm.key, mm.val] rfl (VR.tup_iff.2 ⟨_, rfl, .cons (VR.bool_iff.2 rfl) (.cons hk1 (.cons hv1 .nil))⟩) _ fun ht2 => ?_
                      have hok0 : Ok C ρ (sI l) w0 := by
                        rcases hw0 with rfl | rfl
                        · exact hok1
                        · exact hok1.drew
                      have hheap0 : w0.heap = w1.heap := by rcases hw0 with rfl | rfl <;> rfl
                      let io : Obj := .mapIter (some qm.blk) since (l.toArray.push mm.born) since
                      have hoL := hok0.writeL hp (by rw [hsIj]; rfl) (x := .mitL m e1.2.2 since) (o := io) ⟨qm, since, l.toArray.push mm.born, hqm, hp0, rfl, by simp [hbn]⟩
                      let Cr : Ctx := { C with it := fun k => if k = j then some io else C.it k }
                      let sR : ST := ⟨s.heap.set j (.mitL m e1.2.2 since), s.next, s.next, s.next⟩
                      have hsRj : sR.heap.get j = .mitL m e1.2.2 since := H3.get_set_same _ _ hj3
                      have hsRi : ∀ i, i < 32768 → i ≠ j → sR.heap.get i = s.heap.get i := fun i hi hne => H3.get_set_ne _ _ hj3 hi hne
                      have hokR : Ok Cr ρ sR w2 := by
                        have e3 : w2 = { w0 with heap := w0.heap.setIfInBounds p.blk io } := by rw [hheap0]; exact hw2
                        rw [e3]
                        refine hoL.congr rfl fun i hi => ?_
                        by_cases hij : i = j
                        · subst hij
                          show sR.heap.get i = ((sI l).heap.set i _).get i
                          rw [hsRj, H3.get_set_same _ _ hj3]
                        · show sR.heap.get i = ((sI l).heap.set j _).get i
                          rw [hsRi i hi hij, H3.get_set_ne _ _ hj3 hi hij, hsIi l i hi hij]
                      refine hr _ _ _ _ _ hround Cr ρ _ w2 ht2 hokR (Nat.le_refl _) _ fun ρ' a' w' x1 x2 x3 x4 x5 => ?_
                      have hkeep : ∀ i, i < s.next → s3'.heap.get i = sR.heap.get i := fun i hi => x1.keep (Nat.le_refl _) i hi (Nat.ne_of_lt hi)
                      have hs3 : s.next ≤ s3'.next := x1.next
                      have hjn : j < s.next := hok.dom j p hp
                      have hitj : w'.heap[p.blk]? = some io := x5.itr j p io (x1.le _ _ hp) (by rw [hkeep j hjn, hsRj]; rfl) (by show (if j = j then some io else C.it j) = some io; rw [if_pos rfl])
                      refine ⟨⟨⟨x2.size, x2.small, fun u hu5 => ?_⟩, x3.trans (by rw [defers_put, defers_put]; exact hd1), fun u hu => ?_, l ++ [e1.2.2], ?_⟩, ?_⟩
                      · rw [blank_get hcs5 u hu5]
                        by_cases huc : u ∈ cs
                        · rw [if_pos huc]; simp [VR]
                        · rw [if_neg huc]
                          have hold := ht1.rel u hu5
                          rw [blank_get hcs5 u hu5, if_neg huc] at hold
                          by_cases hud : u ∈ dsts x
                          · have := hks u (without_mem hud huc)
                            rw [blank_get hcs5 u hu5, if_neg huc] at this
                            have hnew := x2.rel u hu5
                            rw [← this] at hnew
                            exact VR.back x1.le _ _ _ hold hnew
                          · rw [x4 u (hdstr u hud).2.2, hfr2 true u hud, ← hf1 u hud]
                            exact hold
                      · rw [x4 u (hdstr u hu).2.2]
                        exact hfr2 true u hu
                      · have hlv : ∀ i q, ρ i = some q → ((sI (l ++ [e1.2.2])).heap.get i).live = true → ρ' i = some q ∧ (s3'.heap.get i).live = true := by
                          intro i q hq hi
                          refine ⟨x1.le _ _ hq, ?_⟩
                          have hin := hok.dom i q hq
                          rw [hkeep i hin]
                          by_cases hij : i = j
                          · subst hij; rw [hsRj]; rfl
                          · have hi3 : i < 32768 := Nat.lt_of_lt_of_le hin hok.bound
                            rw [hsRi i hi3 hij]
                            rwa [hsIi _ i hi3 hij] at hi
                        refine ⟨x5.os, x5.tape, x5.output, ?_, ?_, ?_, hok.dom, hok.bound, ?_⟩
                        · intro i q hq hi
                          have hin := hok.dom i q hq
                          have hi3 : i < 32768 := Nat.lt_of_lt_of_le hin hok.bound
                          by_cases hij : i = j
                          · subst hij
                            rw [hp] at hq
                            cases hq
                            refine ⟨io, hitj, ?_⟩
                            rw [hsIj]
                            exact ⟨some qm.blk, by simp [io, hbn], hp0, qm, hqm, rfl⟩
                          · obtain ⟨h1, h2⟩ := hlv i q hq hi
                            obtain ⟨o1, k1, k2⟩ := x5.obj i q h1 h2
                            rw [hkeep i hin, hsRi i hi3 hij] at k2
                            rw [hsIi _ i hi3 hij] at hi ⊢
                            obtain ⟨o2, k3, k4⟩ := hok1.obj i q hq (by rw [hsIi _ i hi3 hij]; exact hi)
                            rw [hsIi _ i hi3 hij] at k4
                            exact ⟨o1, k1, k4.back x1.le k2⟩
                        · intro i1 i2 q1 q2 h1 h2 h3 h4 h5
                          obtain ⟨k1, k2⟩ := hlv i1 q1 h1 h3
                          obtain ⟨k3, k4⟩ := hlv i2 q2 h2 h4
                          exact x5.inj i1 i2 q1 q2 k1 k3 k2 k4 h5
                        · intro b ob hF
                          obtain ⟨k1, k2⟩ := x5.far b ob hF
                          exact ⟨k1, fun i q hq hi => by obtain ⟨h1, h2⟩ := hlv i q hq hi; exact k2 i q h1 h2⟩
                        · intro i q ob hq hi hC
                          have hin := hok.dom i q hq
                          have hi3 : i < 32768 := Nat.lt_of_lt_of_le hin hok.bound
                          by_cases hij : i = j
                          · subst hij
                            rw [hsIj] at hi
                            cases hi
                          · rw [hsIi _ i hi3 hij] at hi
                            exact x5.itr i q ob (x1.le _ _ hq) (by rw [hkeep i hin, hsRi i hi3 hij]; exact hi) (by show (if i = j then some io else C.it i) = some ob; rw [if_neg hij]; exact hC)
                      · rw [hitj, hoi]
                        refine countP_less (fun z _ hz => ?_) e1 he1m ?_ ?_
                        · simp only [Bool.not_eq_true'] at hz ⊢
                          rw [Array.contains_push] at hz
                          simp at hz
                          simpa using hz.1
                        · simp only [Bool.not_eq_true']
                          rw [← hbn]
                          exact hseen
                        · simp only [Bool.not_eq_false']
                          rw [← hbn]
                          simp
                · cases hrun
              · cases hrun
            · cases hrun
        · cases hrun
      · exact loopN_ok hx 5000 tm s ex tmF sF hrun C ρ a w htm hok hlo Q hQ
    · exact loopN_ok hx 5000 tm s ex tmF sF hrun C ρ a w htm hok hlo Q hQ
  · cases hrun

end
end Go.Exe
namespace Go.Exe
open Go
section
variable {P : Program} {K : CallF} {E : Env} {n : Nat}

theorem region_code (hE : EnvOk P E) (hS : ∀ o : Oper, Sound P K o (opB E o)) (hm : P.follows .mixedOrders = true) (id : Nat) (ops : Array Oper) (dr : Bool) (hd : ∀ u ∈ dsts (.region id ops dr), u < n) :
    CodeOk P n (.region id ops dr) ((codeB E (.region id ops dr)).run K) := by
  intro tm s e tm' s' hrun C ρ a w htm hok hlo Q hQ
  have hdst := dstOk_region hd
  cases dr with
  | true =>
    have hrun' : (match (drawnB E ops.toList).run K tm s with | some (tm, s) => R.ok .normal tm s | none => .no) = .ok e tm' s' := hrun
    split at hrun'
    · rename_i tm1 s1 h1
      cases hrun'
      exact drawn_ok hE hS hm hdst h1 htm hok hlo fun ρ' a' w' x1 x2 x3 x4 x5 => hQ ρ' a' w' x1 x2 x3 (frm_region x4) x5
    · cases hrun'
  | false =>
    have hrun' : (match (opsB E ops.toList ops.toList).run K tm s with | some (tm, s) => R.ok .normal tm s | none => .no) = .ok e tm' s' := hrun
    split at hrun'
    · rename_i tm1 s1 h1
      cases hrun'
      exact region_ok hS hdst h1 htm hok fun ρ' a' w' x1 x2 x3 x4 x5 => hQ ρ' a' w' x1 x2 x3 (frm_region x4) x5
    · cases hrun'

theorem codeB_seq (x y : Code) : (codeB E (.seq x y)).run = fun K tm s => ((codeB E x).run K tm s).then ((codeB E y).run K) := by
  show (match codeB E x, codeB E y with | ⟨a⟩, ⟨b⟩ => (⟨fun K tm s => (a K tm s).then (b K)⟩ : CBox)).run = _
  cases codeB E x
  cases codeB E y
  rfl
theorem codeB_cond (c : Operand) (x y : Code) (tm : Tm) (s : ST) : (codeB E (.cond c x y)).run K tm s = match ((evB c).f tm).asBool with
    | some true => (codeB E x).run K tm s
    | some false => (codeB E y).run K tm s
    | none => .no := by
  show (match evB c, codeB E x, codeB E y with | ⟨c⟩, ⟨a⟩, ⟨b⟩ => (⟨fun K tm s => match (c tm).asBool with
      | some c => Bool.rec (b K tm s) (a K tm s) c
      | none => .no⟩ : CBox)).run K tm s = _
  generalize evB c = c'
  obtain ⟨c'⟩ := c'
  cases codeB E x
  cases codeB E y
  dsimp only
  cases (c' tm).asBool with
  | none => rfl
  | some b => cases b <;> rfl
theorem codeB_block (id : Nat) (x : Code) (tm : Tm) (s : ST) : (codeB E (.block id x)).run K tm s = ((codeB E x).run K tm s).leave id := by
  show (match codeB E x with | ⟨a⟩ => (⟨fun K tm s => (a K tm s).leave id⟩ : CBox)).run K tm s = _
  cases codeB E x
  rfl
theorem codeB_scope (x : Code) : (codeB E (.scope x)).run = (codeB E x).run := by
  show (match codeB E x with | ⟨a⟩ => (⟨a⟩ : CBox)).run = _
  cases codeB E x
  rfl
theorem codeB_loop (x : Code) : (codeB E (.loop x)).run = (match iterOf x with
    | some (t, d, e, r) => mapLoop (codeB E x).run (codeB E r).run t d e (dsts x)
    | none => loopN (codeB E x).run 5000) := by
  have h0 := codeB.eq_def E (.loop x)
  dsimp only at h0
  rw [h0]
  generalize hc : codeB E x = cx
  obtain ⟨a⟩ := cx
  dsimp only
  cases hi : iterOf x with
  | none => rfl
  | some q =>
    obtain ⟨t, d, e, r⟩ := q
    obtain ⟨id, ops, o, q, rfl, _⟩ := iterOf_ok hi
    dsimp only

theorem code_ok (hE : EnvOk P E) (hS : ∀ o : Oper, Sound P K o (opB E o)) (hm : P.follows .mixedOrders = true) (hn5 : n ≤ 512) : ∀ c : Code, (∀ u ∈ dsts c, u < n) → CodeOk P n c ((codeB E c).run K)
  | .skip, _ => by
    intro tm s e tm' s' hrun C ρ a w htm hok hlo Q hQ
    cases hrun
    exact wp_skip (hQ ρ a w (Ext.refl _ _) htm rfl (FrC.refl _ _) hok)
  | .region id ops dr, hd => region_code hE hS hm id ops dr hd
  | .seq x y, hd => by
    have h1 := code_ok hE hS hm hn5 x fun u hu => hd u (by simp [dsts, hu])
    have h2 := code_ok hE hS hm hn5 y fun u hu => hd u (by simp [dsts, hu])
    rw [codeB_seq]
    exact h1.seq h2
  | .cond c x y, hd => by
    have h1 := code_ok hE hS hm hn5 x fun u hu => hd u (by simp [dsts, hu])
    have h2 := code_ok hE hS hm hn5 y fun u hu => hd u (by simp [dsts, hu])
    intro tm s e tm' s' hrun C ρ a w htm hok hlo Q hQ
    rw [codeB_cond] at hrun
    have hev := evB_ok htm c
    split at hrun
    · rename_i hb
      rw [asBool_iff.1 hb, VR.bool_iff] at hev
      exact wp_cond_true hev (h1 tm s e tm' s' hrun C ρ a w htm hok hlo Q fun ρ' a' w' x1 x2 x3 x4 x5 => hQ ρ' a' w' x1 x2 x3 (fun t ht => x4 t fun hh => ht (by simp [dsts, hh])) x5)
    · rename_i hb
      rw [asBool_iff.1 hb, VR.bool_iff] at hev
      exact wp_cond_false hev (h2 tm s e tm' s' hrun C ρ a w htm hok hlo Q fun ρ' a' w' x1 x2 x3 x4 x5 => hQ ρ' a' w' x1 x2 x3 (fun t ht => x4 t fun hh => ht (by simp [dsts, hh])) x5)
    · cases hrun
  | .block id x, hd => by
    have h1 := code_ok hE hS hm hn5 x hd
    intro tm s e tm' s' hrun C ρ a w htm hok hlo Q hQ
    rw [codeB_block] at hrun
    obtain ⟨e1, he, hcase⟩ := leave_ok hrun
    refine wp_block (h1 tm s e1 tm' s' he C ρ a w htm hok hlo _ fun ρ' a' w' x1 x2 x3 x4 x5 => ?_)
    have hq := hQ ρ' a' w' x1 x2 x3 x4 x5
    rcases hcase with ⟨rfl, rfl⟩ | ⟨rfl, rfl⟩ | ⟨m, rfl, hmi, rfl⟩ | ⟨rfl, rfl⟩
    · exact hq
    · show (if id = id then Q .normal a' w' else _)
      rw [if_pos rfl]; exact hq
    · show (if m = id then Q .normal a' w' else Q (.exit m) a' w')
      rw [if_neg hmi]; exact hq
    · exact hq
  | .loop x, hd => by
    have h1 := code_ok hE hS hm hn5 x hd
    rw [codeB_loop]
    cases hi : iterOf x with
    | none => exact loopN_ok h1 5000
    | some q =>
      obtain ⟨t, d, e, r⟩ := q
      match x, hi, h1, hd with
      | .seq y r', hi, h1, hd =>
        have hr : r = r' := by
          obtain ⟨_, _, _, _, hx, _⟩ := iterOf_ok hi
          injection hx with _ h2
          exact h2.symm
        subst hr
        exact mapLoop_ok h1 (code_ok hE hS hm hn5 r fun u hu => hd u (by simp [dsts, hu])) hi hd hn5
  | .exit id, _ => by
    intro tm s e tm' s' hrun C ρ a w htm hok hlo Q hQ
    cases hrun
    exact wp_exit (hQ ρ a w (Ext.refl _ _) htm rfl (FrC.refl _ _) hok)
  | .ret, _ => by
    intro tm s e tm' s' hrun C ρ a w htm hok hlo Q hQ
    cases hrun
    exact wp_ret (hQ ρ a w (Ext.refl _ _) htm rfl (FrC.refl _ _) hok)
  | .scope x, hd => by
    have h1 := code_ok hE hS hm hn5 x hd
    intro tm s e tm' s' hrun C ρ a w htm hok hlo Q hQ
    rw [codeB_scope] at hrun
    refine wp_scope_straight (h1 tm s e tm' s' hrun C ρ a w htm hok hlo _ fun ρ' a' w' x1 x2 x3 x4 x5 => ?_)
    have hq := hQ ρ' a' w' x1 x2 x3 x4 x5
    cases e <;> exact hq
  | .label l, _ => by
    intro tm s e tm' s' hrun C ρ a w htm hok hlo Q hQ
    cases hrun
    exact wp_label (hQ ρ a w (Ext.refl _ _) htm rfl (FrC.refl _ _) hok)
  | .rangeFunc _ _ _ _, _ | .goto _, _ | .refuse _, _ => by
    intro tm s e tm' s' hrun
    cases hrun

/-! ### Functions -/
theorem getB_undef {t : Nat} (h : t < 512) : (getB t).f Tm.undef = .tup [] := by
  rw [getB_eq _ h]
  unfold Tm.undef
  rw [N8.sel_all, N8.sel_all, N8.sel_all]

theorem putArgs_get : ∀ (l : List SV) (i : Nat) (tm : Tm) (t : Nat), i + l.length ≤ 512 → t < 512 → (getB t).f (putArgs l i tm) = if i ≤ t ∧ t < i + l.length then l.getD (t - i) .bad else (getB t).f tm
  | [], i, tm, t, _, _ => by
    unfold putArgs
    rw [if_neg (by simp <;> omega)]
  | x :: l, i, tm, t, hl, ht => by
    unfold putArgs
    simp only [List.length_cons] at hl
    rw [putArgs_get l (i + 1) _ t (by omega) ht]
    by_cases h1 : t = i
    · subst h1
      rw [if_neg (by omega), get_put_same _ _ ht, if_pos (by simp)]
      simp
    · rw [get_put_ne _ _ (by omega) ht h1]
      by_cases h2 : i ≤ t ∧ t < i + (x :: l).length
      · simp only [List.length_cons] at h2
        rw [if_pos (by omega), if_pos (by simp; omega)]
        obtain ⟨k, hk⟩ : ∃ k, t - i = k + 1 := ⟨t - i - 1, by omega⟩
        rw [hk, show t - (i + 1) = k by omega]
        simp
      · simp only [List.length_cons] at h2
        rw [if_neg (by omega), if_neg (by simp; omega)]

theorem allLt_ok : ∀ {l : List Nat}, allLt n l = true → ∀ u ∈ l, u < n
  | [], _, u, hu => by simp at hu
  | d :: l, h, u, hu => by
    unfold allLt at h
    simp only [Bool.and_eq_true] at h
    rcases List.mem_cons.1 hu with rfl | hu
    · simpa [Nat.blt_eq] using h.1
    · exact allLt_ok h.2 u hu

theorem tmR_args {ρ : Ren} {args : List SV} {as : Array Value} (h : VRL ρ args as.toList) (hl : args.length ≤ n) (hn : n ≤ 512) : TmR ρ n (putArgs args 0 Tm.undef) { tmps := as ++ Array.replicate (n - as.size) undef, defers := [] } := by
  have hlen := h.length
  simp at hlen
  refine ⟨by simp; omega, hn, fun t ht => ?_⟩
  rw [putArgs_get args 0 _ t (by omega) ht]
  by_cases h1 : t < args.length
  · rw [if_pos (by omega)]
    obtain ⟨v, hv, hr⟩ := h.get t args[t] (by simp [h1])
    have e1 : args.getD (t - 0) .bad = args[t] := by simp [h1]
    have e2 : (as ++ Array.replicate (n - as.size) undef).getD t undef = v := by
      have : t < as.size := by omega
      rw [Array.getElem?_toList] at hv
      rw [Array.getD_eq_getD_getElem?, Array.getElem?_append_left this, hv]
      rfl
    rw [e1]
    show VR ρ args[t] ((as ++ Array.replicate (n - as.size) undef).getD t undef)
    rw [e2]
    exact hr
  · rw [if_neg (by omega), getB_undef ht]
    have e2 : (as ++ Array.replicate (n - as.size) undef).getD t undef = undef := by
      rw [Array.getD_eq_getD_getElem?, Array.getElem?_append_right (by omega), Array.getElem?_replicate]
      split <;> rfl
    show VR ρ (.tup []) ((as ++ Array.replicate (n - as.size) undef).getD t undef)
    rw [e2]
    exact VR.undef ρ

def rvSem (tmps : Array Value) : ResultVar → Sem Value
  | .tmp t => pure (tmps.getD t undef)
  | .cell a t => do loadVar t (← asAddr (tmps.getD a undef))
def RvOk : ResultVar → Prop
  | .tmp t => t < 512
  | .cell t _ => t < 512

theorem resB_ok (hE : EnvOk P E) {C : Ctx} {ρ : Ren} {tm : Tm} {s : ST} {a : Act} {w : World} (htm : TmR ρ n tm a) (hok : Ok C ρ s w) : ∀ {l : List ResultVar} {r : List SV}, (∀ x ∈ l, RvOk x) → (resB E l).run tm s = some r →
    ∃ vs : List Value, (l.mapM (rvSem a.tmps)).run P w = .ok vs w ∧ VRL ρ r vs
  | [], r, _, h => by
    cases h
    exact ⟨[], rfl, .nil⟩
  | .tmp t :: l, r, hl, h => by
    have h' : (match (resB E l).run tm s with | some r => some ((getB t).f tm :: r) | none => none) = some r := h
    split at h'
    · rename_i r' hr
      cases h'
      obtain ⟨vs, h1, h2⟩ := resB_ok hE htm hok (fun x hx => hl x (by simp [hx])) hr
      refine ⟨a.tmps.getD t undef :: vs, ?_, .cons (htm.rel t (hl _ List.mem_cons_self)) h2⟩
      rw [List.mapM_cons, Sem.run_bind]
      have h3 : (rvSem a.tmps (.tmp t)).run P w = .ok (a.tmps.getD t undef) w := rfl
      rw [h3, Result.andThen_ok, Sem.run_bind, h1]
      rfl
    · cases h'
  | .cell t ty :: l, r, hl, h => by
    have h' : (match loadS E ty ((getB t).f tm) s, (resB E l).run tm s with | some v, some r => some (v :: r) | _, _ => none) = some r := h
    split at h'
    · rename_i v r' hv hr
      cases h'
      obtain ⟨vs, h1, h2⟩ := resB_ok hE htm hok (fun x hx => hl x (by simp [hx])) hr
      obtain ⟨y, hy, ry⟩ := load_ok (P := P) hE hok hv (htm.rel t (hl _ List.mem_cons_self))
      refine ⟨y :: vs, ?_, .cons ry h2⟩
      rw [List.mapM_cons, Sem.run_bind]
      have h3 : (rvSem a.tmps (.cell t ty)).run P w = .ok y w := by
        show (do loadVar ty (← asAddr (a.tmps.getD t undef)) : Sem Value).run P w = _
        unfold Instr.loadAt at hy
        generalize a.tmps.getD t undef = u at hy ⊢
        cases u <;> first | (cases hy; done) | skip
        rename_i p
        cases p with
        | none => cases hy
        | some ad => exact hy
      rw [h3, Result.andThen_ok, Sem.run_bind, h1]
      rfl
    · cases h'

theorem lenV_eq (l : List SV) : lenV l = l.length := by
  induction l with
  | nil => rfl
  | cons x l ih => show Nat.succ (lenV l) = _; rw [ih]; rfl

/-- no function of these is one that the model answers itself -/
def NmOk (E : Env) : Prop := ∀ f fn, E.fs f = some fn → (fn.name == "runtime.NumGoroutine") = false

theorem rvs_ok {l : List ResultVar} (h : rvLt l = true) : ∀ x ∈ l, RvOk x := by
  induction l with
  | nil => intro x hx; simp at hx
  | cons y l ih =>
    intro x hx
    unfold rvLt at h
    simp only [Bool.and_eq_true] at h
    rcases List.mem_cons.1 hx with rfl | hx
    · cases x with
      | tmp t => simpa [RvOk, Nat.blt_eq] using h.1
      | cell t ty => simpa [RvOk, Nat.blt_eq] using h.1
    · exact ih h.2 x hx

theorem funcB_ok (hE : EnvOk P E) (hN : NmOk E) (hS : ∀ o : Oper, Sound P K o (opB E o)) (hm : P.follows .mixedOrders = true) (f : Nat) : CallOk P f ((funcB E f).run K) := by
  intro args s v s' hrun C ρ as w hargs hok
  cases hf : E.fs f with
  | none =>
    have : (funcB E f).run K args s = none := by unfold funcB; rw [hf]
    rw [this] at hrun; cases hrun
  | some fn =>
  cases hb : fn.body with
  | none =>
    have : (funcB E f).run K args s = none := by unfold funcB; rw [hf]; dsimp only; rw [hb]
    rw [this] at hrun; cases hrun
  | some c =>
  have hrun' : (match Nat.ble fn.ntmps 512 && (allLt fn.ntmps (dsts c) && rvLt fn.results.toList) with
    | true => (match Nat.ble (lenV args) fn.ntmps && Nat.ble s.lo s.next with
      | true => match (codeB E c).run K (putArgs args 0 Tm.undef) s with
        | .ok e tm s => match e with
          | .exit _ => none
          | _ => match (resB E fn.results.toList).run tm s with
            | some r => some (oneS r, s)
            | none => none
        | .no => none
      | false => none)
    | false => none) = some (v, s') := by
    unfold funcB at hrun
    rw [hf] at hrun
    dsimp only at hrun
    rw [hb] at hrun
    dsimp only at hrun
    cases hc : Nat.ble fn.ntmps 512 && (allLt fn.ntmps (dsts c) && rvLt fn.results.toList) with
    | false => rw [hc] at hrun; cases hrun
    | true =>
      rw [hc] at hrun
      dsimp only at hrun ⊢
      generalize codeB E c = cb at hrun ⊢
      generalize resB E fn.results.toList = rb at hrun ⊢
      obtain ⟨cb⟩ := cb
      obtain ⟨rb⟩ := rb
      exact hrun
  have hPf := hE.fs f fn hf
  refine .inr ⟨?_, ?_⟩
  · have hnm := hN f fn hf
    simp only [callFunc]
    rw [Sem.run_bind]
    show (Sem.run P (match P.funcs[f]? with | none => _ | some fn => _) w) = _
    rw [hPf]
    dsimp only
    rw [hnm]
    simp [hb]
  · refine calls_of_wp hPf hb ?_
    split at hrun'
    · rename_i hc
      simp only [Bool.and_eq_true] at hc
      have hn5 := Nat.le_of_ble_eq_true hc.1
      have hd := allLt_ok hc.2.1
      have hrv := rvs_ok hc.2.2
      split at hrun'
      · rename_i hl
        simp only [Bool.and_eq_true] at hl
        have hl1 := Nat.le_of_ble_eq_true hl.1
        rw [lenV_eq] at hl1
        have hl2 := Nat.le_of_ble_eq_true hl.2
        split at hrun'
        · rename_i e tm s1 hcode
          have main : ∀ (r : List SV), (resB E fn.results.toList).run tm s1 = some r → v = oneS r → s' = s1 → ∀ ρ' a' w', Ext s s1 ρ ρ' → TmR ρ' fn.ntmps tm a' → a'.defers = [] → Ok C ρ' s1 w' →
              a'.defers = [] ∧ ∃ y, (results fn a'.tmps).run P w' = .ok y w' ∧ ∃ v' ρ'', Ending.returned y = .returned v' ∧ Ext s s' ρ ρ'' ∧ VR ρ'' v v' ∧ Ok C ρ'' s' w' := by
            rintro r hr rfl rfl ρ' a' w' x1 x2 x3 x5
            obtain ⟨vs, h1, h2⟩ := resB_ok (P := P) hE x2 x5 hrv hr
            have h3 : (results fn a'.tmps).run P w' = .ok (if h : (⟨vs⟩ : Array Value).size = 1 then (⟨vs⟩ : Array Value)[0] else .tuple ⟨vs⟩) w' := by
              show (do let vs ← fn.results.mapM (rvSem a'.tmps); pure (if h : vs.size = 1 then vs[0] else .tuple vs)).run P w' = _
              rw [Sem.run_bind, Array.mapM_eq_mapM_toList, Sem.run_map, h1]
              rfl
            refine ⟨x3, _, h3, _, ρ', rfl, x1, ?_, x5⟩
            match r, vs, h2 with
            | [], vs, h2 =>
              rw [VRL.nil_iff.1 h2]
              exact VR.tup_iff.2 ⟨[], rfl, .nil⟩
            | [x], vs, h2 =>
              obtain ⟨u, rfl, hu⟩ := h2.one
              exact hu
            | x :: y :: r, vs, h2 =>
              have hl := h2.length
              rw [dif_neg (by simp at hl ⊢; omega)]
              exact VR.tup_iff.2 ⟨vs, rfl, h2⟩
          refine code_ok hE hS hm hn5 c hd _ _ _ _ _ hcode C ρ _ w (tmR_args hargs hl1 hn5) hok hl2 _ fun ρ' a' w' x1 x2 x3 x4 x5 => ?_
          cases e with
          | exit k => cases hrun'
          | normal =>
            dsimp only at hrun'
            split at hrun'
            · rename_i r hr
              cases hrun'
              exact main r hr rfl rfl ρ' a' w' x1 x2 x3 x5
            · cases hrun'
          | ret =>
            dsimp only at hrun'
            split at hrun'
            · rename_i r hr
              cases hrun'
              exact main r hr rfl rfl ρ' a' w' x1 x2 x3 x5
            · cases hrun'
        · cases hrun'
      · cases hrun'
    · cases hrun'

/-- what is told of functions that are taken as they are -/
def PrimOk (P : Program) (_E : Env) (prim : Nat → Option Prim) : Prop := ∀ f p, prim f = some p → ∀ K : CallF, (∀ g, CallOk P g (K g)) → CallOk P f (p K)

theorem callN_ok (hE : EnvOk P E) (hK : KtOk P E) (hN : NmOk E) (hm : P.follows .mixedOrders = true) {prim : Nat → Option Prim} (hp : PrimOk P E prim) : ∀ (k f : Nat), CallOk P f (callN E prim k f)
  | 0, f => by intro args s v s' h; cases h
  | k + 1, f => by
    have ih := callN_ok hE hK hN hm hp k
    have e : callN E prim (k + 1) f = fun args s => Option.rec (motive := fun _ => Option (SV × ST)) ((funcB E f).run (callN E prim k) args s) (fun p => p (callN E prim k) args s) (prim f) := rfl
    rw [e]
    cases hpf : prim f with
    | none => exact funcB_ok hE hN (fun o => opB_sound hE hK ih o) hm f
    | some p => exact hp f p hpf _ ih

end
end Go.Exe
