/- SplitterAdds: the walk. No condition but that version is a byte. -/
import Derived.Test.YtiehhoonfneccaaSU
import Derived.Test.YtiehhoonfneccaaSBB
namespace Go.Proofs.Ytiehhoonfneccaa
open Go.RowKit
theorem sp_err_rest (ver : Int) : ∀ (n : Nat) (l : List UInt8), l.length ≤ n → (sp ver l).2.2 ≠ 0 → (sp ver l).2.1 = [] := by
  intro n
  induction n with
  | zero =>
    intro l h he
    obtain rfl : l = [] := List.eq_nil_of_length_eq_zero (by omega)
    rw [sp_nil]
  | succ n ih =>
    intro l h he
    by_cases h9 : l.length < 9
    · rw [sp_short _ _ h9] at he
      exact absurd rfl he
    · by_cases hx : erOf ver l = 0
      · by_cases hw : l.length < 9 + (hL l).toNat
        · rw [sp_wait _ _ h9 hx hw] at he
          exact absurd rfl he
        · rw [sp_one _ _ h9 hx hw] at he ⊢
          exact ih (l.drop (9 + (hL l).toNat)) (by rw [List.length_drop]; omega) he
      · rw [sp_err _ _ h9 hx]
theorem XM.drop {w : World} {B n c D : Nat} {A : Option Addr} {fs : List Fr} (h : XM w B A n c fs) (hD : D ≤ n) : XM w B (if c = D then A else A.map (fun x => x.add (D * 6))) (n - D) (c - D) (fs.drop D) := by
  have hl := h.len
  have hc := h.cap
  have hm := h.max
  refine ⟨by rw [List.length_drop, hl], by omega, by omega, fun hn => ?_⟩
  obtain ⟨g, o, e, hg, hp⟩ := h.at_ (by omega)
  subst e
  rw [if_neg (by omega)]
  refine ⟨g, o + D * 6, by simp [add_none], hg, fun j hj => ?_⟩
  rw [List.length_drop] at hj
  have := hp (D + j) (by omega)
  rw [List.getElem_drop]
  have e : o + D * 6 + j * 6 = o + (D + j) * 6 := by rw [Nat.add_mul]; omega
  rw [e]
  exact this
theorem add_all2 {w : World} {p : Nat} {ver er : Int} {l l2 : List UInt8} {A A2 : Option Addr} {c m c2 : Nat} (gs : List Fr) (r : List UInt8) (x : Int) (gl : Nat) (hgl : gs.length = gl) (h : Spl w p ver l er A c) (h2 : SW w A2 m c2 l2) (hm : l.length + m ≤ 1099511627776) (hv0 : 0 ≤ ver) (hv1 : ver < 256) (hs : addR ver l er l2 = (gs, r, x)) :
    Calls Try.prog 26 #[.pointer (some ⟨p, 0, none⟩), .slice A2 m c2] w fun e w' => ∃ B d xs A' c', e = .returned (.tuple #[.slice B gl d, .int .i64 x]) ∧ Frs w' w.heap.size (.slice B gl d) gs xs ∧ Spl w' p ver r x A' c' ∧ w.grownBy w' (some p) ∧ LocOf w A A' := by
  subst hgl
  unfold addR at hs
  by_cases he : er = 0
  · subst he
    rw [if_pos rfl] at hs
    refine (add_loc h h2 hm hv0 hv1).mono ?_
    rintro e w' ⟨v, xs, A', c', rfl, hF, hS, hG, hL⟩
    rw [sp_is ver (l ++ l2) (by rw [List.length_append, BS.len h2]; omega), hs] at hF hS ⊢
    obtain ⟨B, d, rfl⟩ := hF.form
    exact ⟨B, d, xs, A', c', rfl, hF, hS, hG, hL⟩
  · rw [if_neg he] at hs
    simp only [Prod.mk.injEq] at hs
    obtain ⟨rfl, rfl, rfl⟩ := hs
    refine (add_err h he).mono ?_
    rintro e w' ⟨rfl, hb⟩
    exact ⟨none, 0, [], _, _, rfl, ⟨World.ownsRow_nil _ _ _ _, rfl⟩, h.below hb, below_grown hb _, fun a ha => .inl ⟨a, ha, rfl⟩⟩
theorem Spl.bytes_grown {w w' : World} {p base n : Nat} {ver e : Int} {l : List UInt8} {A : Option Addr} {c : Nat} {v : Value} {xs : List Value} (h : Spl w p ver l e A c) (ho : w.ownsRow base 5 1 v n xs) (hg : w.grownBy w' v.ownBlock) (hne : ∀ a, A = some a → v.ownBlock ≠ some a.block) : Spl w' p ver l e A c := by
  refine ⟨(grown_typed ho hg h.row (by decide)).trans h.row, ⟨BS.len h.bs, BS.cap h.bs, BS.max h.bs, BS.nil h.bs, fun hn => ?_⟩, fun a ha => ?_⟩
  · obtain ⟨b, o, e, hb, hc⟩ := BS.at_ h.bs hn
    have hx := hne _ e
    exact ⟨b, o, e, Nat.lt_of_lt_of_le hb hg.size, fun i hi => (World.cell?_of_block (a := ⟨b, o + i, none⟩) (hg.block b hb (fun x => hx x.symm))).trans (hc i hi)⟩
  · obtain ⟨cs, f, hc⟩ := h.ty a ha
    exact ⟨cs, f, (hg.block _ (Array.getElem?_eq_some_iff.1 hc).1 (fun x => hne a ha x.symm)).trans hc⟩
set_option maxRecDepth 20000 in
set_option maxHeartbeats 1000000 in
theorem adds_any {A : Option Addr} {n c : Nat} {ps : List Part} (ver : Int) (w : World) (hps : PS w w.heap.size A n c ps) (hv0 : 0 ≤ ver) (hv1 : ver < 256) :
    Calls Try.prog 8 #[.int .u8 ver, .slice A n c] w fun e w' => e = .returned (.bool true) ∧ Below w.heap.size w w' := by
  obtain ⟨i0, hi, hz0, hz1, hz2⟩ := info_parts info_byte
  have hpl := hps.len
  have hm := Nat.le_trans hps.cap hps.max
  unfold maxLen at hm
  go_enter Try.func8, Try.ntmps8
  go_wp2_with fail
  refine (awake6 _).mono ?_
  rintro e w1 ⟨rfl, hb1⟩
  go_wp2_with fail
  refine (new_any ver _).mono ?_
  rintro e w2 ⟨rfl, hS2, hb2⟩
  obtain ⟨P, hP⟩ : ∃ P, w1.heap.size = P := ⟨_, rfl⟩
  rw [hP] at hS2 ⊢
  have hP2 : P < w2.heap.size := hS2.row.lt
  go_wp2_with fail
  go_loopw [7, 8, 9] (fun v vd i wr => ∃ (k N D : Nat) (bs : List UInt8) (fs : List Fr) (r' : List UInt8) (e' : Int) (A' : Option Addr) (c' : Nat), k ≤ n ∧ k ≤ 12 ∧ i = .int .i64 k ∧ vd = .int .i64 D ∧ N ≤ 1000 * k ∧ Hid (N = bs.length) ∧ Hid (sp ver bs = (fs, r', e')) ∧ Hid (e' = 0 → D = fs.length) ∧ wr.ownsRow (P + 1) 5 1 v N (bv bs) ∧ Spl wr P ver r' e' A' c' ∧ (∀ a, A' = some a → v.ownBlock ≠ some a.block) ∧ Below w1.heap.size w1 wr ∧ P + 1 ≤ wr.heap.size) (fun _ _ i _ => 12 - (intOf i).toNat)
  case atStart => exact ⟨0, 0, 0, [], [], [], 0, _, _, Nat.zero_le _, Nat.zero_le _, rfl, rfl, Nat.le_refl _, Lib.hid rfl, Lib.hid (sp_nil ver), Lib.hid (fun _ => rfl), World.ownsRow_nil _ _ _ _, hS2, (fun a ha => by cases ha), hb2, hP2⟩
  case round =>
    obtain ⟨k, N, D, bs, fs, r', e', A', c', hk, hk12, rfl, rfl, hN, hNb, hsp, hD, hown, hS, hsep, hb, hPr⟩ := hrel
    by_cases hlt : k < n ∧ k < 12
    · obtain ⟨hkn, hk2⟩ := hlt
      obtain ⟨g, o, rfl, hg, hp⟩ := hps.at_ (by omega)
      have hkp : k < ps.length := by omega
      have hck := (hp.below (below_then hb1 hb) hg).cell k hkp
      have hbk := (hp.below (below_then hb1 hb) hg).bs k hkp
      obtain ⟨p, hpk⟩ : ∃ p, ps[k] = p := ⟨_, rfl⟩
      rw [hpk] at hck hbk
      obtain ⟨A1, n1, c1, l1⟩ := p
      simp only at hck hbk
      have hpc0 := hp.cell k hkp
      rw [hpk] at hpc0
      have hpb0 := hp.bs k hkp
      rw [hpk] at hpb0
      simp only at hpc0 hpb0
      clear hpk
      have hm1 := Nat.le_trans hbk.cap hbk.max
      unfold maxLen at hm1
      by_cases h3 : 1000 < n1
      · go_wp2_with fail
        go_ret
        exact ⟨rfl, below_then hb1 hb⟩
      · obtain ⟨A7, c7, rfl, sw7⟩ := SW.of_own hown
        have hcnt := sp_cnt ver _ bs (Nat.le_refl _)
        rw [hsp.out, ← hNb.out] at hcnt
        simp only at hcnt
        obtain ⟨rl, hrl⟩ : ∃ rl, r'.length = rl := ⟨_, rfl⟩
        have HRL := Lib.hid hrl
        have hl1 := hbk.len
        clear hrl hm1
        go_wp2_with fail
        refine (all_any ver _ sw7 (by omega) hsp.out rl HRL.out hv0 hv1).mono ?_
        rintro e w3 ⟨v3, rfl, hX3, hb3⟩
        have hown3 := own_below hown hb3
        have hS3 := hS.below hb3
        have hP3 : P + 1 ≤ w3.heap.size := Nat.le_trans hPr hb3.size
        have hck3 : w3.cell? ⟨g, o + k, none⟩ = some (.slice A1 n1 c1) := keep_cell hck hg ((below_then (below_then hb1 hb) hb3).mono (Nat.le_refl _) |> fun _ => hb3.mono (below_then hb1 hb).size)
        have hbk3 : SW w3 A1 n1 c1 l1 := BS.more (hbk.below (hb3.mono (below_then hb1 hb).size)) (Nat.le_trans (below_then hb1 hb).size hb3.size)
        go_wp2_with (at_builtin; refine wpList_append_bs _ rfl _ _ 27 rfl (P + 1) 5 i0 (.int .u8 0) Try.underlying27 hi hz0 hz1 hz2 rfl _ N (bv bs) rfl hown3 rfl hbk3 ?_ ?_ ?_)
        · omega
        · exact hP3
        · intro v4 w4 hown4 hg4 hat4
          rw [← bv_append] at hown4
          have hob3 := own_blk hown3
          have hS4 := hS3.bytes_grown hown3 hg4 hsep
          have b14 : Below w1.heap.size w1 w4 := (below_then hb hb3).grown hg4 (below_then hb hb3).size (fun q hq => by have := hob3 q hq; omega)
          have hP4 : P + 1 ≤ w4.heap.size := Nat.le_trans hP3 hg4.size
          have hsep4 : ∀ a, A' = some a → v4.ownBlock ≠ some a.block := by
            intro a ha e
            rcases hat4 with h | h
            · rw [h] at e
              exact hsep a ha e
            · rw [h] at e
              have e := Option.some.inj e
              obtain ⟨cs, f, hc⟩ := hS3.ty a ha
              have := (Array.getElem?_eq_some_iff.1 hc).1
              omega
          have hck4 : w4.cell? ⟨g, o + k, none⟩ = some (.slice A1 n1 c1) := ((below_then hb1 b14).cell (p := ⟨g, o + k, none⟩) hg).trans hpc0
          have hbk4 : SW w4 A1 n1 c1 l1 := BS.more (hpb0.below (below_then hb1 b14)) (below_then hb1 b14).size
          obtain ⟨g2, r2, e2, hR⟩ : ∃ g r e, addR ver r' e' l1 = (g, r, e) := ⟨_, _, _, rfl⟩
          have hsp2 : sp ver (bs ++ l1) = (fs ++ g2, r2, e2) := by rw [sp_addR ver hsp.out, hR]
          have hcnt2 := sp_cnt ver _ (bs ++ l1) (Nat.le_refl _)
          rw [hsp2, List.length_append, List.length_append, ← hNb.out, hl1] at hcnt2
          simp only at hcnt2
          obtain ⟨gl, hgl⟩ : ∃ gl, g2.length = gl := ⟨_, rfl⟩
          obtain ⟨rl2, hrl2⟩ : ∃ rl, r2.length = rl := ⟨_, rfl⟩
          rw [hgl, hrl2] at hcnt2
          have HR := Lib.hid hR
          have HSP2 := Lib.hid hsp2
          have HGL := Lib.hid hgl
          have HRL2 := Lib.hid hrl2
          have hrl' : r'.length + n1 ≤ 1099511627776 := by have := HRL.out; omega
          clear hR hsp2 hgl hrl2 hown3 hS3 hck3 hbk3
          go_wp2_with fail
          refine (add_all2 g2 r2 e2 gl HGL.out hS4 hbk4 hrl' hv0 hv1 HR.out).mono ?_
          rintro e w5 ⟨B5, d5, x5, A5, c5, rfl, hF5, hS5, hG5, hL5⟩
          have hown5 := own_typed hown4 hG5 hS4.row (by decide)
          have b15 : Below w1.heap.size w1 w5 := b14.grown hG5 b14.size (fun q hq => by injection hq with hq; omega)
          have hP5 : P + 1 ≤ w5.heap.size := Nat.le_trans hP4 hG5.size
          have hsep5 : ∀ a, A5 = some a → v4.ownBlock ≠ some a.block := by
            intro a ha e
            rcases hL5 a ha with ⟨a0, h0, h1⟩ | h
            · rw [h1] at e
              exact hsep4 a0 h0 e
            · have := (hown4.lt a.block e).2
              omega
          obtain ⟨A4, c4, rfl, sw5⟩ := SW.of_own hown5
          obtain ⟨a6, ha6⟩ : ∃ a6, N + n1 - rl2 = a6 := ⟨_, rfl⟩
          have hall := all_any ver w5 sw5 (by omega) HSP2.out rl2 HRL2.out hv0 hv1
          rw [ha6] at hall
          have HALL := Lib.hid hall
          have hl6 : (N : Int) + (n1 : Int) - (a6 : Int) = (rl2 : Int) := by omega
          clear hall ha6
          go_wp2_with fail
          refine HALL.out.mono ?_
          rintro e w6 ⟨v6, rfl, hX6, hb6⟩
          have hS6 := hS5.below hb6
          have hown6 := own_below hown5 hb6
          have b16 := below_then b15 hb6
          have hP6 := Nat.le_trans hP5 hb6.size
          obtain ⟨A6, c6, rfl, hXM6⟩ := hX6.form
          have hfl6 : (fs ++ g2).length = fs.length + gl := by rw [List.length_append, HGL.out]
          rw [hfl6] at hXM6 ⊢
          by_cases he : e' = 0
          · have hD' := hD.out he
            subst he
            obtain ⟨nW, hnW⟩ : ∃ nW, fs.length + gl = nW := ⟨_, rfl⟩
            rw [hnW] at hXM6 hfl6 ⊢
            have hnD : nW - D = gl := by omega
            have hDn : D ≤ nW := by omega
            have hcW := hXM6.cap
            have hmW := hXM6.max
            unfold maxLen at hmW
            obtain ⟨AW, hAW⟩ : ∃ AW, (if c6 = D then A6 else Option.map (fun x => x.add (D * 6)) A6) = AW := ⟨_, rfl⟩
            have hXd : XM w6 w6.heap.size AW gl (c6 - D) g2 := by
              have h1 := hXM6.drop hDn
              rw [hAW, hnD, hD', List.drop_left] at h1
              rw [hD']
              exact h1
            have hfm6 := hF5.fm.then_ hb6
            have iD : (D : Int) ≤ (nW : Int) := by omega
            have hgb : gl ≤ 68719476736 := by omega
            have HNW := Lib.hid (show e2 = 0 → nW = (fs ++ g2).length from fun _ => hfl6.symm)
            have HNN := Lib.hid (show N + n1 = (bs ++ l1).length by rw [List.length_append, ← hNb.out, hl1])
            clear hD' hnW hfl6 hF5 hXM6 hX6 hX3 hS hS4 hS5 hown hown4 hown5 sw7 sw5 hL5 hsep hsep4 hck4 hbk4 hbk hck hpc0 hpb0
            go_upto_region 20 with fail
            go_region_held3 (fun w' => Below w6.heap.size w6 w') (first | (repeat' (first | exact Below.refl _ _ | assumption | refine below_new ?_ _ | refine Below.drew ?_ | refine below_drewN ?_ _ | refine below_then ?_ (by assumption))))
              (first | (go_at_call 29; refine (framesOf_any _ (FM.then_ hfm6 (by (repeat' (first | exact Below.refl _ _ | assumption | refine below_new ?_ _ | refine Below.drew ?_ | refine below_drewN ?_ _ | refine below_then ?_ (by assumption))))) hgb).mono ?_; rintro e w7 ⟨v7, rfl, hX7, hb7⟩; obtain ⟨A7, c7, rfl, hXM7⟩ := hX7.form; rw [HGL.out] at hXM7 ⊢) | (go_at_call 28; refine (same_fx _ (XM.then_ hXM7 (by (repeat' (first | exact Below.refl _ _ | assumption | refine below_new ?_ _ | refine Below.drew ?_ | refine below_drewN ?_ _ | refine below_then ?_ (by assumption))))) (XM.then_ hXd (by (repeat' (first | exact Below.refl _ _ | assumption | refine below_new ?_ _ | refine Below.drew ?_ | refine below_drewN ?_ _ | refine below_then ?_ (by assumption)))))).mono ?_; rintro e w8 ⟨rfl, q8, rfl⟩) | (go_at_call 27; refine (left_is rl2 (Spl.below hS6 (by (repeat' (first | exact Below.refl _ _ | assumption | refine below_new ?_ _ | refine Below.drew ?_ | refine below_drewN ?_ _ | refine below_then ?_ (by assumption))))) HRL2.out).mono ?_; rintro e w9 ⟨rfl, rfl⟩))
            go_wp2_with fail
            refine ⟨⟨k + 1, N + n1, nW, bs ++ l1, fs ++ g2, r2, e2, _, _, by omega, by omega, by go_num, rfl, by omega, HNN, HSP2, HNW, own_below hown6 ?_, hS6.below ?_, hsep5, below_then b16 ?_, Nat.le_trans hP6 (Below.size (B := w6.heap.size) (w := w6) ?_)⟩, by simp [intOf]; omega⟩
            all_goals (repeat' (first | exact Below.refl _ _ | assumption | refine below_new ?_ _ | refine Below.drew ?_ | refine below_drewN ?_ _ | refine below_then ?_ (by assumption)))
          · have hR := HR.out
            unfold addR at hR
            rw [if_neg he] at hR
            simp only [Prod.mk.injEq] at hR
            obtain ⟨rfl, rfl, rfl⟩ := hR
            have hr0 : r' = [] := by
              have := sp_err_rest ver _ bs (Nat.le_refl _)
              rw [hsp.out] at this
              exact this he
            subst hr0
            have hgl0 : gl = 0 := HGL.out.symm
            have hrl0 : rl2 = 0 := HRL2.out.symm
            subst hgl0
            subst hrl0
            have heb : (e' == 0) = false := beq_eq_false_iff_ne.2 he
            have hen : (e' != 0) = true := by simpa using he
            have HNN := Lib.hid (show N + n1 = (bs ++ l1).length by rw [List.length_append, ← hNb.out, hl1])
            have HSPX := Lib.hid (show sp ver (bs ++ l1) = (fs, [], e') by rw [HSP2.out, List.append_nil])
            have HDX := Lib.hid (show e' = 0 → D = fs.length from fun h => absurd h he)
            clear hfl6 hF5 hXM6 hX6 hX3 hS hS4 hS5 hown hown4 hown5 sw7 sw5 hL5 hsep hsep4 hck4 hbk4 hbk hck hpc0 hpb0
            go_wp2_with fail
            refine (left_is 0 hS6 rfl).mono ?_
            rintro e w9 ⟨rfl, rfl⟩
            go_wp2_with fail
            exact ⟨⟨k + 1, N + n1, D, bs ++ l1, fs, [], e', _, _, by omega, by omega, by go_num, rfl, by omega, HNN, HSPX, HDX, hown6, hS6, hsep5, b16, hP6⟩, by simp [intOf]; omega⟩
    · by_cases hkn : k < n
      · obtain rfl : k = 12 := by omega
        go_wp2_with fail
        go_ret
        exact ⟨rfl, below_then hb1 hb⟩
      · go_wp2_with fail
        go_ret
        exact ⟨rfl, below_then hb1 hb⟩
end Go.Proofs.Ytiehhoonfneccaa
