/- SplitterPieces: frames joined in a row; the walk. No condition but that version is a byte. -/
import Derived.Test.YtiehhoonfneccaaSL
namespace Go.Proofs.Ytiehhoonfneccaa
open Go.RowKit
theorem FrsIn.mono {w : World} {base base' : Nat} (hb : base' ≤ base) : ∀ {fs : List Fr} {xs : List Value}, FrsIn w base fs xs → FrsIn w base' fs xs
  | [], _, h => h
  | _ :: _, _, ⟨A, c, ys, e, h1, h2⟩ => ⟨A, c, ys, e, owns_mono h1 hb, FrsIn.mono hb h2⟩
theorem FrsIn.append {w : World} {base : Nat} {gs : List Fr} {ys : List Value} (h2 : FrsIn w base gs ys) : ∀ {fs : List Fr} {xs : List Value}, FrsIn w base fs xs → FrsIn w base (fs ++ gs) (xs ++ ys)
  | [], xs, h => by
    obtain rfl : xs = [] := h
    exact h2
  | f :: fs, _, ⟨A, c, zs, e, h1, h3⟩ => ⟨A, c, zs ++ ys, by rw [e, List.append_assoc], h1, FrsIn.append h2 h3⟩
theorem FrsIn.one {w : World} {base : Nat} : ∀ {fs : List Fr} {xs : List Value}, FrsIn w base fs xs → ∀ u ∈ xs, u.oneCell' = true
  | [], xs, h, u, hu => by
    obtain rfl : xs = [] := h
    simp at hu
  | f :: fs, _, ⟨A, c, zs, e, _, h3⟩, u, hu => by
    subst e
    rcases List.mem_append.1 hu with hu | hu
    · simp [frCells] at hu
      rcases hu with rfl | rfl | rfl | rfl | rfl | rfl <;> rfl
    · exact FrsIn.one h3 u hu
theorem Frs.run_append {w : World} {base base' : Nat} {v : Value} {fs gs : List Fr} {xs ys : List Value} {B : Option Addr} {m d : Nat} (h : Frs w base v fs xs) (h2 : Frs w base' (.slice B m d) gs ys) (hbb : base ≤ base') (hb : base ≤ w.heap.size) (hn : fs.length + gs.length ≤ 1099511627776) (ty : TypeId) :
    ∃ v' w', (Builtin.append_ #[51, 51] ty #[v, .slice B m d]).run Try.prog w = .ok v' w' ∧ Frs w' base v' (fs ++ gs) (xs ++ ys) ∧ w.grownBy w' v.ownBlock := by
  obtain ⟨i, hi⟩ : ∃ i, Try.prog.info? 60 = some i := by
    have := info_frame
    cases h : Try.prog.info? 60 with
    | none => rw [h] at this; cases this
    | some i => exact ⟨i, rfl⟩
  have hif := info_frame
  rw [hi] at hif
  simp only [Option.map_some, Option.some.injEq, Prod.mk.injEq] at hif
  obtain ⟨hz, hsz, hby⟩ := hif
  obtain ⟨z, hz1, hz2⟩ := Option.map_eq_some_iff.1 hz
  have hr := h2.row
  rcases hr.2 with ⟨hv, hn0⟩ | ⟨g, cap, cur, hv, _, hk, hc, hm, hs, ht⟩
  · injection hv with e1 e2 e3
    subst e1
    subst e2
    subst e3
    obtain rfl : gs = [] := List.eq_nil_of_length_eq_zero hn0
    obtain rfl : ys = [] := h2.cells
    have r1 := run_append_owned_none (P := Try.prog) w base 51 ty 60 i 6 Try.underlying51 hi v fs.length xs h.row
    exact ⟨v, w, r1, by simpa using h, ⟨rfl, rfl, rfl, Nat.le_refl _, fun _ _ _ => rfl⟩⟩
  · injection hv with e1 e2 e3
    subst e1
    subst e2
    subst e3
    obtain ⟨v', w', h1, ho, hgr, _⟩ := run_append_own (P := Try.prog) w base 51 ty 60 i z 6 40 Try.underlying51 hi hz1 hsz hby hz2 (by omega) v fs.length xs h.row ⟨g, 0, none⟩ gs.length _ ys (by have := hr.1; omega)
      (hr.cells (g := g) rfl) (FrsIn.one h2.cells) (by unfold maxLen; omega) (by omega) hb
    refine ⟨v', w', h1, ⟨by simpa using ho, ?_⟩, hgr⟩
    exact FrsIn.append (FrsIn.mono hbb (FrsIn.own h.row hgr h2.cells)) (FrsIn.own h.row hgr h.cells)
theorem sp_cnt (ver : Int) : ∀ (n : Nat) (l : List UInt8), l.length ≤ n → (sp ver l).1.length + (sp ver l).2.1.length ≤ l.length := by
  intro n
  induction n with
  | zero =>
    intro l h
    obtain rfl : l = [] := List.eq_nil_of_length_eq_zero (by omega)
    rw [sp_nil]
    exact Nat.le_refl _
  | succ n ih =>
    intro l h
    by_cases h9 : l.length < 9
    · rw [sp_short _ _ h9]
      simp
    · by_cases he : erOf ver l = 0
      · by_cases hw : l.length < 9 + (hL l).toNat
        · rw [sp_wait _ _ h9 he hw]
          simp
        · rw [sp_one _ _ h9 he hw]
          have := ih (l.drop (9 + (hL l).toNat)) (by rw [List.length_drop]; omega)
          rw [List.length_drop] at this
          simp only [List.length_cons]
          omega
      · rw [sp_err _ _ h9 he]
        exact Nat.zero_le _
/-- What a splitter tells of more bytes, and is then. -/
def addR (ver : Int) (l : List UInt8) (e : Int) (m : List UInt8) : List Fr × List UInt8 × Int := if e = 0 then sp ver (l ++ m) else ([], l, e)
theorem sp_addR (ver : Int) {a b : List UInt8} {gs : List Fr} {r : List UInt8} {e : Int} (h : sp ver a = (gs, r, e)) : sp ver (a ++ b) = (gs ++ (addR ver r e b).1, (addR ver r e b).2) := by
  rw [sp_app, h]
  unfold spMore addR
  by_cases he : e = 0
  · simp [he]
  · simp [he]
theorem addR_len (ver : Int) (l : List UInt8) (e : Int) (m : List UInt8) : (addR ver l e m).1.length + (addR ver l e m).2.1.length ≤ l.length + m.length := by
  unfold addR
  by_cases he : e = 0
  · rw [if_pos he]
    have := sp_cnt ver _ (l ++ m) (Nat.le_refl _)
    rwa [List.length_append] at this
  · rw [if_neg he]
    simp
theorem add_all {w : World} {p : Nat} {ver er : Int} {l l2 : List UInt8} {A A2 : Option Addr} {c m c2 : Nat} (gs : List Fr) (r : List UInt8) (x : Int) (h : Spl w p ver l er A c) (h2 : SW w A2 m c2 l2) (hm : l.length + m ≤ 1099511627776) (hv0 : 0 ≤ ver) (hv1 : ver < 256) (hs : addR ver l er l2 = (gs, r, x)) :
    Calls Try.prog 26 #[.pointer (some ⟨p, 0, none⟩), .slice A2 m c2] w fun e w' => ∃ B d xs A' c', e = .returned (.tuple #[.slice B gs.length d, .int .i64 x]) ∧ Frs w' w.heap.size (.slice B gs.length d) gs xs ∧ Spl w' p ver r x A' c' ∧ w.grownBy w' (some p) := by
  unfold addR at hs
  by_cases he : er = 0
  · subst he
    rw [if_pos rfl] at hs
    exact add_is (l.length + m + 1) gs r x h h2 hm hv0 hv1 rfl (by rw [sp_is ver (l ++ l2) (by rw [List.length_append, BS.len h2]; omega)]; exact hs)
  · rw [if_neg he] at hs
    simp only [Prod.mk.injEq] at hs
    obtain ⟨rfl, rfl, rfl⟩ := hs
    refine (add_err h he).mono ?_
    rintro e w' ⟨rfl, hb⟩
    exact ⟨none, 0, [], _, _, rfl, ⟨World.ownsRow_nil _ _ _ _, rfl⟩, h.below hb, below_grown hb _⟩
theorem left_is {w : World} {p : Nat} {ver e : Int} {l : List UInt8} {A : Option Addr} {c : Nat} (x : Nat) (h : Spl w p ver l e A c) (hx : l.length = x) : Calls Try.prog 27 #[.pointer (some ⟨p, 0, none⟩)] w fun e w' => e = .returned (.int .i64 (x : Int)) ∧ w = w' := by
  subst hx
  exact left_any h
theorem pieces_out {A A2 : Option Addr} {n c n2 c2 : Nat} {l l2 : List UInt8} (ver : Int) (w : World) (hl : SW w A n c l) (hl2 : SW w A2 n2 c2 l2) (hn : 2000 < n ∨ 200 < n2) :
    Calls Try.prog 9 #[.int .u8 ver, .slice A n c, .slice A2 n2 c2] w fun e w' => e = .returned (.bool true) ∧ Below w.heap.size w w' := by
  have hm := Nat.le_trans (BS.cap hl) (BS.max hl)
  have hm2 := Nat.le_trans (BS.cap hl2) (BS.max hl2)
  unfold maxLen at hm hm2
  by_cases h5 : 2000 < n
  · go_enter Try.func9, Try.ntmps9
    go_wp2_with fail
    refine (awake6 _).mono ?_
    rintro e w1 ⟨rfl, hb1⟩
    go_wp2_with fail
    go_ret
    exact ⟨rfl, hb1⟩
  · have h8 : 200 < n2 := by omega
    go_enter Try.func9, Try.ntmps9
    go_wp2_with fail
    refine (awake6 _).mono ?_
    rintro e w1 ⟨rfl, hb1⟩
    go_wp2_with fail
    go_ret
    exact ⟨rfl, hb1⟩
set_option maxRecDepth 20000 in
set_option maxHeartbeats 1000000 in
theorem pieces_in {A A2 : Option Addr} {n c n2 c2 : Nat} {l l2 : List UInt8} (ver : Int) (w : World) (hl : SW w A n c l) (hl2 : SW w A2 n2 c2 l2) (hn : n ≤ 2000) (hn2 : n2 ≤ 200) (hv0 : 0 ≤ ver) (hv1 : ver < 256) :
    Calls Try.prog 9 #[.int .u8 ver, .slice A n c, .slice A2 n2 c2] w fun e w' => e = .returned (.bool true) ∧ Below w.heap.size w w' := by
  have hlen := BS.len hl
  have hlen2 := BS.len hl2
  obtain ⟨fs, r, x, hsp⟩ : ∃ fs r x, sp ver l = (fs, r, x) := ⟨_, _, _, rfl⟩
  have HSP := Lib.hid hsp
  clear hsp
  go_enter Try.func9, Try.ntmps9
  go_wp2_with fail
  refine (awake6 _).mono ?_
  rintro e w1 ⟨rfl, hb1⟩
  have hl1 := hl.then_ hb1
  go_wp2_with fail
  refine (new_any ver _).mono ?_
  rintro e w2 ⟨rfl, hS2, hb2⟩
  have hlz2 := hl1.then_ hb2
  go_wp2_with fail
  refine (add_is (n + 1) fs r x hS2 hlz2 (by simp; omega) hv0 hv1 (by simp) (by rw [List.nil_append, sp_is ver l (by omega)]; exact HSP.out)).mono ?_
  rintro e w3 ⟨B3, d3, x3, A3, c3, rfl, hF3, hS3, hG3⟩
  have b13 : Below w1.heap.size w1 w3 := hb2.grown hG3 hb2.size (fun q hq => by injection hq with hq; omega)
  have hl3 := hl1.then_ b13
  obtain ⟨nf, hnf⟩ : ∃ nf, fs.length = nf := ⟨_, rfl⟩
  rw [hnf] at hF3 ⊢
  have HNF := Lib.hid hnf
  clear hnf
  go_wp2_with fail
  refine (new_any ver _).mono ?_
  rintro e w4 ⟨rfl, hS4, hb4⟩
  obtain ⟨P1, hP1⟩ : ∃ P1, w1.heap.size = P1 := ⟨_, rfl⟩
  obtain ⟨P, hP⟩ : ∃ P, w3.heap.size = P := ⟨_, rfl⟩
  rw [hP1] at hS3 hG3 ⊢
  rw [hP] at hS4 ⊢
  have hP4 : P < w4.heap.size := hS4.row.lt
  go_wp2_with fail
  go_loopw [12, 13, 14, 15] (fun vm vf va i wr => ∃ (k t : Nat) (gs : List Fr) (xs : List Value) (r' : List UInt8) (e' : Int) (A' : Option Addr) (c' : Nat), k ≤ n2 + 1 ∧ i = .int .i64 k ∧ t ≤ n ∧ va = .int .i64 t ∧ vf = .int .i64 e' ∧ (k = n2 + 1 → t = n) ∧ Hid (sp ver (l.take t) = (gs, r', e')) ∧ r'.length ≤ t ∧ gs.length ≤ t ∧ Spl wr P ver r' e' A' c' ∧ Frs wr (P + 1) vm gs xs ∧ Below w3.heap.size w3 wr ∧ P + 1 ≤ wr.heap.size) (fun _ _ _ i _ => n2 + 2 - (intOf i).toNat)
  case atStart =>
    exact ⟨0, 0, [], [], [], 0, _, _, by omega, rfl, Nat.zero_le _, rfl, rfl, (fun h => by omega), Lib.hid (sp_nil ver), Nat.zero_le _, Nat.zero_le _, hS4, ⟨World.ownsRow_nil _ _ _ _, rfl⟩, hb4, hP4⟩
  case round =>
    obtain ⟨k, t, gs, xs, r', e', A', c', hk, rfl, ht, rfl, rfl, hkt, hst, hrl, hgl, hSr, hFr, hbr, hPr⟩ := hrel
    by_cases hlt : k ≤ n2
    · go_upto_region 16 with fail
      go_cut [62] from 48 to 61 (fun v wx => ∃ bb : Bool, v = .bool bb ∧ (bb = true → ∃ b o z : Nat, A2 = some ⟨b, o, none⟩ ∧ k < n2 ∧ wr.cell? ⟨b, o + k, none⟩ = some (.int .u8 (z : Int)) ∧ z < 256 ∧ t + z < n) ∧ wx = wr)
      case first =>
        by_cases hk2 : k < n2
        · have hl2r := hl2.then_ (below_then hb1 (below_then b13 hbr))
          obtain ⟨b, o, rfl, _, hkl, hcb⟩ := BS.byte hl2r hk2
          obtain ⟨z, hz⟩ : ∃ z : Nat, (l2[k].toNat : Int) = z := ⟨_, rfl⟩
          rw [hz] at hcb
          have hz2 : z < 256 := by have := l2[k].toNat_lt; omega
          clear hz
          by_cases hT : t + z < n
          · have hTI : (t : Int) + (z : Int) < (n : Int) := by omega
            go_wp2_with fail
            go_meet
            exact ⟨true, rfl, fun _ => ⟨b, o, z, rfl, hk2, hcb, hz2, hT⟩, rfl⟩
          · have hTI : (n : Int) ≤ (t : Int) + (z : Int) := by omega
            go_wp2_with fail
            go_meet
            exact ⟨false, by rw [decide_eq_false (by omega)], (fun h => by simp at h), rfl⟩
        · go_wp2_with fail
          go_meet
          exact ⟨false, rfl, (fun h => by simp at h), rfl⟩
      case rest =>
      obtain ⟨bb, rfl, hbb, rfl⟩ := hcut
      go_upto_if 62 with fail
      go_cut [16] from 63 to 69 (fun v wx => ∃ T : Nat, v = .int .i64 T ∧ t ≤ T ∧ T ≤ n ∧ (k = n2 → T = n) ∧ wx = wc)
      case first =>
        cases bb
        · go_wp2_with fail
          go_meet
          exact ⟨n, rfl, ht, Nat.le_refl _, fun _ => rfl, rfl⟩
        · obtain ⟨b, o, z, rfl, hk2, hcb, hz2, hT⟩ := hbb rfl
          clear hbb
          go_wp2_with fail
          go_meet
          exact ⟨t + z, by go_num, by omega, by omega, fun h => by omega, rfl⟩
      case rest =>
        obtain ⟨T, rfl, htT, hTn, hkT, rfl⟩ := hcut
        have hcap := BS.cap hl
        have i1 : (T : Int) ≤ (c : Int) := by omega
        have i2 : (t : Int) ≤ (T : Int) := by omega
        clear hbb
        have hlr := hl3.then_ hbr
        have hF := BS.from_ hlr (k := t) (by omega)
        by_cases hct : c = t
        · have htT2 : t = T := by omega
          rw [if_pos hct, hct, Nat.sub_self] at hF
          subst htT2
          subst hct
          have HPC := Lib.hid (show SW wc A 0 0 ((l.drop c).take (c - c)) by rw [Nat.sub_self]; exact BS.upto hF (k := 0) (by omega))
          clear hF
          obtain ⟨g2, r2, e2, hR⟩ : ∃ g r e, addR ver r' e' ((l.drop c).take (c - c)) = (g, r, e) := ⟨_, _, _, rfl⟩
          have hT3 : l.take c = l.take c ++ (l.drop c).take (c - c) := by rw [Nat.sub_self, List.take_zero, List.append_nil]
          have hstT : sp ver (l.take c) = (gs ++ g2, r2, e2) := by rw [hT3, sp_addR ver hst.out, hR]
          have hRL := addR_len ver r' e' ((l.drop c).take (c - c))
          have hpl : ((l.drop c).take (c - c)).length = c - c := by rw [List.length_take, List.length_drop]; omega
          rw [hR, hpl] at hRL
          simp only at hRL
          have hcn := sp_cnt ver _ (l.take c) (Nat.le_refl _)
          rw [hstT, List.length_take, List.length_append] at hcn
          simp only at hcn
          have HR := Lib.hid hR
          have HST := Lib.hid hstT
          have hg2l : gs.length + g2.length ≤ c := by omega
          have hr2l : r2.length ≤ c := by omega
          clear hR hstT hT3 hRL hpl hcn
          go_wp2_with fail
          refine (add_all g2 r2 e2 hSr HPC.out (by omega) hv0 hv1 HR.out).mono ?_
          rintro e w6 ⟨B6, d6, x6, A6, c6, rfl, hF6, hS6, hG6⟩
          have hFm := hFr.grown hSr.row hG6
          have b36 : Below w3.heap.size w3 w6 := hbr.grown hG6 hbr.size (fun q hq => by injection hq with hq; rw [← hq, ← hP]; exact Nat.le_refl _)
          have hP6 : P + 1 ≤ w6.heap.size := Nat.le_trans hPr hG6.size
          obtain ⟨v7, w7, hrun, hF7, hg7⟩ := Frs.run_append hFm hF6 hPr hP6 (by omega) 51
          have hS7 := hS6.own hFm.row hg7
          have b37 := b36.grown hg7 b36.size (fun q hq => by have := (hFm.row.lt q hq).1; omega)
          have hP7 : P + 1 ≤ w7.heap.size := Nat.le_trans hP6 hg7.size
          clear hF6 hS6 hG6 hFm hFr hSr hg7
          go_wp2_with (at_builtin; refine Lib.wpList_append_run _ rfl _ _ _ _ rfl _ _ rfl rfl _ _ hrun ?_)
          exact ⟨⟨k + 1, c, gs ++ g2, _, r2, e2, _, _, by omega, by go_num, hTn, rfl, rfl, (fun h => hkT (by omega)), HST, hr2l, by rw [List.length_append]; exact hg2l, hS7, hF7, b37, hP7⟩, by simp [intOf]; omega⟩
        · rw [if_neg hct] at hF
          have HPC := Lib.hid (show SW wc (A.map (·.add t)) (T - t) (c - t) ((l.drop t).take (T - t)) from BS.upto hF (k := T - t) (by omega))
          clear hF
          obtain ⟨g2, r2, e2, hR⟩ : ∃ g r e, addR ver r' e' ((l.drop t).take (T - t)) = (g, r, e) := ⟨_, _, _, rfl⟩
          have hT3 : l.take T = l.take t ++ (l.drop t).take (T - t) := by
            have := List.take_add (l := l) (i := t) (j := T - t)
            rwa [show t + (T - t) = T by omega] at this
          have hstT : sp ver (l.take T) = (gs ++ g2, r2, e2) := by rw [hT3, sp_addR ver hst.out, hR]
          have hRL := addR_len ver r' e' ((l.drop t).take (T - t))
          have hpl : ((l.drop t).take (T - t)).length = T - t := by rw [List.length_take, List.length_drop]; omega
          rw [hR, hpl] at hRL
          simp only at hRL
          have hcn := sp_cnt ver _ (l.take T) (Nat.le_refl _)
          rw [hstT, List.length_take, List.length_append] at hcn
          simp only at hcn
          have HR := Lib.hid hR
          have HST := Lib.hid hstT
          have hg2l : gs.length + g2.length ≤ T := by omega
          have hr2l : r2.length ≤ T := by omega
          clear hR hstT hT3 hRL hpl hcn
          go_wp2_with fail
          refine (add_all g2 r2 e2 hSr HPC.out (by omega) hv0 hv1 HR.out).mono ?_
          rintro e w6 ⟨B6, d6, x6, A6, c6, rfl, hF6, hS6, hG6⟩
          have hFm := hFr.grown hSr.row hG6
          have b36 : Below w3.heap.size w3 w6 := hbr.grown hG6 hbr.size (fun q hq => by injection hq with hq; rw [← hq, ← hP]; exact Nat.le_refl _)
          have hP6 : P + 1 ≤ w6.heap.size := Nat.le_trans hPr hG6.size
          obtain ⟨v7, w7, hrun, hF7, hg7⟩ := Frs.run_append hFm hF6 hPr hP6 (by omega) 51
          have hS7 := hS6.own hFm.row hg7
          have b37 := b36.grown hg7 b36.size (fun q hq => by have := (hFm.row.lt q hq).1; omega)
          have hP7 : P + 1 ≤ w7.heap.size := Nat.le_trans hP6 hg7.size
          clear hF6 hS6 hG6 hFm hFr hSr hg7
          go_wp2_with (at_builtin; refine Lib.wpList_append_run _ rfl _ _ _ _ rfl _ _ rfl rfl _ _ hrun ?_)
          exact ⟨⟨k + 1, T, gs ++ g2, _, r2, e2, _, _, by omega, by go_num, hTn, rfl, rfl, (fun h => hkT (by omega)), HST, hr2l, by rw [List.length_append]; exact hg2l, hS7, hF7, b37, hP7⟩, by simp [intOf]; omega⟩
    · obtain rfl : k = n2 + 1 := by omega
      have htn := hkt rfl
      have h1 := hst.out
      rw [htn, List.take_of_length_le (by omega), HSP.out] at h1
      simp only [Prod.mk.injEq] at h1
      obtain ⟨h2, h3, h4⟩ := h1
      have hgn : gs.length = nf := by rw [← h2]; exact HNF.out
      obtain ⟨Bm, dm, rfl⟩ := hFr.form
      rw [hgn] at hFr ⊢
      have hS1 := hS3.below hbr
      have hFl := hF3.below hbr
      have hfm1 := hFl.fm
      have hfm2 := hFr.fm
      rw [← h2] at hfm2
      have hnf' : nf ≤ 68719476736 := by omega
      have hrx : r.length ≤ n := by rw [h3]; omega
      obtain ⟨rl, hrlen⟩ : ∃ rl, r.length = rl := ⟨_, rfl⟩
      have hr'len : r'.length = rl := by rw [← h3]; exact hrlen
      subst h4
      have HRL := Lib.hid hrlen
      have HRL' := Lib.hid hr'len
      have b03 := below_then hb1 (below_then b13 hbr)
      clear h2 h3 hgn hst hkt hFr hF3 hrlen hr'len hrl
      go_wp2_with fail
      refine (left_is rl hS1 HRL.out).mono ?_
      rintro e w5 ⟨rfl, rfl⟩
      go_wp2_with fail
      refine (left_is rl hSr HRL'.out).mono ?_
      rintro e w5 ⟨rfl, rfl⟩
      go_wp2_with fail
      refine (framesOf_any _ hfm1 hnf').mono ?_
      rintro e w5 ⟨v5, rfl, hX5, hb5⟩
      obtain ⟨A5, c5, rfl, hXM5⟩ := hX5.form
      go_wp2_with fail
      refine (framesOf_any _ (hfm2.then_ hb5) hnf').mono ?_
      rintro e w6 ⟨v6, rfl, hX6, hb6⟩
      obtain ⟨A6, c6, rfl, hXM6⟩ := hX6.form
      go_wp2_with fail
      refine (same_fx _ (hXM5.then_ hb6) hXM6).mono ?_
      rintro e w7 ⟨rfl, q, rfl⟩
      go_wp2_with fail
      go_ret
      exact ⟨rfl, below_drewN (below_then b03 (below_then hb5 hb6)) _⟩
theorem pieces_any {A A2 : Option Addr} {n c n2 c2 : Nat} {l l2 : List UInt8} (ver : Int) (w : World) (hl : SW w A n c l) (hl2 : SW w A2 n2 c2 l2) (hv0 : 0 ≤ ver) (hv1 : ver < 256) :
    Calls Try.prog 9 #[.int .u8 ver, .slice A n c, .slice A2 n2 c2] w fun e w' => e = .returned (.bool true) ∧ Below w.heap.size w w' := by
  by_cases h : 2000 < n ∨ 200 < n2
  · exact pieces_out ver w hl hl2 h
  · exact pieces_in ver w hl hl2 (by omega) (by omega) hv0 hv1
end Go.Proofs.Ytiehhoonfneccaa
