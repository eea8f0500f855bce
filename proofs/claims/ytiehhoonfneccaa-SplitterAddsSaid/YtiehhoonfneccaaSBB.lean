/- Add, with where the splitter's bytes lie afterwards. Where all bytes take at most 2^40. -/
import Derived.Test.YtiehhoonfneccaaSB
namespace Go.Proofs.Ytiehhoonfneccaa
open Go.RowKit
/-- The slice lies where the elder one did, or in new memory. -/
def LocOf (w : World) (A A' : Option Addr) : Prop := ∀ a, A' = some a → (∃ a0, A = some a0 ∧ a.block = a0.block) ∨ w.heap.size ≤ a.block
theorem run_append_sw2 {w : World} {A A2 : Option Addr} {n m c2 : Nat} {l l2 : List UInt8} (h : SW w A n n l) (h2 : SW w A2 m c2 l2) (hb : n + m ≤ 140737488355328) (ty : TypeId) :
    ∃ A' c' w', (Builtin.append_ #[27, 27] ty #[.slice A n n, .slice A2 m c2]).run Try.prog w = .ok (.slice A' (n + m) c') w' ∧ SW w' A' (n + m) c' (l ++ l2) ∧ Below w.heap.size w w' ∧ (A' = A ∨ BT w' A') ∧ LocOf w A A' := by
  obtain ⟨i0, hi, hz0, hz1, hz2⟩ := info_parts info_byte
  have ht := Try.underlying27
  have hfin : ∀ {v' : Value} {w' : World}, w'.ownsRow w.heap.size 5 1 v' (n + m) (bv l ++ bv l2) → w.grownBy w' none → ∃ A' c', v' = .slice A' (n + m) c' ∧ SW w' A' (n + m) c' (l ++ l2) ∧ Below w.heap.size w w' ∧ (A' = A ∨ BT w' A') ∧ LocOf w A A' := by
    intro v' w' ho hg
    rw [← bv_append] at ho
    obtain ⟨A', c', rfl, hs⟩ := SW.of_own ho
    exact ⟨A', c', rfl, hs, (Below.refl _ _).grown hg (Nat.le_refl _) (fun k hk => by cases hk), .inr (BT.own ho), fun a ha => .inr (ho.lt a.block (by rw [ha]; rfl)).1⟩
  rcases Nat.eq_zero_or_pos m with rfl | hm
  · have hl2 : l2 = [] := BS.empty h2 rfl
    subst hl2
    refine ⟨A, n, w, ?_, by simpa using h, Below.refl _ _, .inl rfl, fun a ha => .inl ⟨a, ha, rfl⟩⟩
    simp [Builtin.append_, run_underlying ht, sizeOf, typeInfo, hi, Builtin.lenOf, Builtin.firstCells, storeCells]
    cases A2 <;> cases A <;> simp [storeCells, loadCells, loadCellsFrom]
  · obtain ⟨b2, o2, rfl, _, _⟩ := BS.at_ h2 hm
    cases A with
    | none =>
      have hn : n = 0 := BS.nil h rfl
      subst hn
      have hl : l = [] := BS.empty h rfl
      subst hl
      obtain ⟨v', w', h1, ho, hg, _⟩ := run_append_own (P := Try.prog) w w.heap.size 27 ty 5 i0 (.int .u8 0) 1 1 ht hi hz0 hz1 hz2 rfl (by omega) (.slice none 0 0) 0 [] (World.ownsRow_nil w _ _ _) ⟨b2, o2, none⟩ m c2 (bv l2) (BS.news h2).1 ((BS.news h2).2 _ rfl) (bv_one l2) (by unfold maxLen; omega) (by omega) (Nat.le_refl _)
      obtain ⟨A', c', rfl, hs⟩ := hfin (by simpa [bv] using ho) hg
      exact ⟨A', c', w', h1, hs⟩
    | some a =>
      obtain ⟨v', w', h1, ho, hg⟩ := run_append_arg_grows (P := Try.prog) w 27 ty 5 i0 (.int .u8 0) 1 1 ht hi hz0 hz1 hz2 rfl (by omega) a n n (bv l) (BS.news h).1 ((BS.news h).2 _ rfl) ⟨b2, o2, none⟩ m c2 (bv l2) (BS.news h2).1 ((BS.news h2).2 _ rfl) (by omega) (by unfold maxLen; omega) (by omega)
      obtain ⟨A', c', rfl, hs⟩ := hfin ho hg
      exact ⟨A', c', w', h1, hs⟩
theorem step_append_sw2 {ops : Array Oper} {o : Oper} {a : Act} {w : World} {K : Act → World → Prop} {Q : Exit → Act → World → Prop} {E : Prop} {A A2 : Option Addr} {n m c2 : Nat} {l l2 : List UInt8}
    (hg : o.guard = none) (s x : Operand) (hop : o.op = Op.call { callee := Callee.builtin Builtin.append, args := #[s, x], argTypes := #[27, 27] })
    (hs : a.eval s = .slice A n n) (hx : a.eval x = .slice A2 m c2) (h : SW w A n n l) (h2 : SW w A2 m c2 l2) (hb : n + m ≤ 140737488355328)
    (hK : ∀ A' c' w', SW w' A' (n + m) c' (l ++ l2) → Below w.heap.size w w' → (A' = A ∨ BT w' A') → LocOf w A A' → K (a.put o.dst (.slice A' (n + m) c')) w') :
    if Region.wanted o (yielded ops a.tmps) = true then Oper.wp Try.prog o a w K Q else E := by
  have hw : Region.wanted o (yielded ops a.tmps) = true := by simp [Region.wanted, hg]
  rw [if_pos hw]
  obtain ⟨A', c', w', hrun, r1, r2, r3, r4⟩ := run_append_sw2 h h2 hb o.type
  unfold Oper.wp
  simp [execOp, hop, resolve, invoke, builtin, hs, hx, hrun, Result.andThen]
  exact hK _ _ _ r1 r2 r3 r4
set_option maxRecDepth 20000 in
set_option maxHeartbeats 40000000 in
theorem add_loc {w : World} {p : Nat} {ver : Int} {l l2 : List UInt8} {A A2 : Option Addr} {c m c2 : Nat} (h : Spl w p ver l 0 A c) (h2 : SW w A2 m c2 l2) (hm : l.length + m ≤ 1099511627776) (hv0 : 0 ≤ ver) (hv1 : ver < 256) :
    Calls Try.prog 26 #[.pointer (some ⟨p, 0, none⟩), .slice A2 m c2] w fun e w' => ∃ v xs A' c', e = .returned (.tuple #[v, .int .i64 (spl ver (l.length + m + 1) (l ++ l2)).2.2]) ∧
      Frs w' w.heap.size v (spl ver (l.length + m + 1) (l ++ l2)).1 xs ∧ Spl w' p ver (spl ver (l.length + m + 1) (l ++ l2)).2.1 (spl ver (l.length + m + 1) (l ++ l2)).2.2 A' c' ∧ w.grownBy w' (some p) ∧ LocOf w A A' := by
  obtain ⟨q0, q1, q2, q3, q4, q5, q6⟩ := spl_cells h
  have hcap := BS.cap h.bs
  have hmx := BS.max h.bs
  unfold maxLen at hmx
  have hmc := BS.cap h2
  have hmm := BS.max h2
  unfold maxLen at hmm
  have hn : SW w A l.length l.length l := ⟨h.bs.len, Nat.le_refl _, Nat.le_trans hcap h.bs.max, fun e => by have := BS.nil h.bs e; omega, h.bs.at_⟩
  obtain ⟨T, hT⟩ : ∃ T, l ++ l2 = T := ⟨_, rfl⟩
  have HTT := Lib.hid hT
  have HLL := Lib.hid (show T.length = l.length + m by rw [← hT, List.length_append, BS.len h2])
  rw [hT]
  obtain ⟨tot, htot⟩ : ∃ tot, spl ver (l.length + m + 1) T = tot := ⟨_, rfl⟩
  have HT := Lib.hid htot
  rw [htot]
  clear hT htot
  go_enter Try.func26, Try.ntmps26
  go_wp2_with fail
  go_step3
  go_upto_region 5 with fail
  go_cut [38] from 21 to 40 (fun v wx => ∃ A' c' w1, v = .slice A' (l.length + m) c' ∧ SW w1 A' (l.length + m) c' (l ++ l2) ∧ Below w.heap.size w w1 ∧ (A' = A ∨ BT w1 A') ∧ LocOf w A A' ∧ wx = w1.setCell ⟨p, 1, none⟩ (.slice A' (l.length + m) c'))
  case first =>
    go_region_law (first | (refine step_append_sw2 rfl (.tmp 36) (.tmp 37) rfl (by simp [Act.eval, Act.put]) (by simp [Act.eval, Act.put]) (SW.drew hn) (SW.drew h2) (by omega) ?_; intro A' c' w1 hs1 hb1 ha1 hloc1; obtain ⟨r0, r1, r2, r3, r4, r5, r6⟩ := spl_cells (Spl.below (w := w.drew) ⟨h.row.drew, SW.drew h.bs, h.ty⟩ hb1)))
    all_goals go_wp2_with fail
    all_goals go_meet
    all_goals exact ⟨_, _, _, rfl, hs1, below_then (w := w.drew) (Below.refl _ _).drew hb1, ha1, hloc1, rfl⟩
  case rest =>
    obtain ⟨A', c', w1, rfl, hs1, hb1, ha1, hloc1, rfl⟩ := hcut
    have hLL := HLL.out
    rw [HTT.out, ← hLL] at hs1
    have hneA : BT w1 A' := by
      rcases ha1 with rfl | hx
      · exact h.ty.below hb1
      · exact hx
    have hS : Spl (w1.setCell ⟨p, 1, none⟩ (.slice A' (l.length + m) c')) p ver T 0 A' c' := by
      rw [← hLL]
      exact Spl.set_ (h.row.below hb1 h.row.lt) hs1 hneA
    have hG : w.grownBy (w1.setCell ⟨p, 1, none⟩ (.slice A' (l.length + m) c')) (some p) := grown_trans (below_grown hb1 _) (set_grown _ _ _ _)
    obtain ⟨wS, hwS⟩ : ∃ wS, w1.setCell ⟨p, 1, none⟩ (.slice A' (l.length + m) c') = wS := ⟨_, rfl⟩
    rw [hwS] at hS hG ⊢
    have HM := Lib.hid (show T.length < l.length + m + 1 by omega)
    have HMM := Lib.hid (show 0 + T.length ≤ 1099511627776 by omega)
    clear hwS hneA ha1 hs1 hb1 hn hLL q0 q1 q2 q3 q4 q5 q6
    go_wp2_with fail
    go_step3
    go_wp2_with fail
    go_loopw [6] (fun v wr => ∃ (k : Nat) (fs : List Fr) (xs : List Value) (r : List UInt8) (A2 : Option Addr) (c : Nat), Spl wr p ver r 0 A2 c ∧ Frs wr w.heap.size v fs xs ∧ w.grownBy wr (some p) ∧ LocOf w A A2 ∧ r.length < k ∧ fs.length + r.length ≤ 1099511627776 ∧ tot = (fs ++ (spl ver k r).1, (spl ver k r).2)) (fun _ wr => lenAt wr p)
    case atStart =>
      exact ⟨_, [], [], T, A', c', hS, ⟨World.ownsRow_nil _ _ _ _, rfl⟩, hG, hloc1, HM.out, HMM.out, by rw [← HT.out]; rfl⟩
    case round =>
      obtain ⟨k, fs, xs, r, Ar, cr, hSr, hFr, hGr, hLr, hk, hrl, htr⟩ := hrel
      obtain ⟨q0, q1, q2, q3, q4, q5, q6⟩ := spl_cells hSr
      have HTR := Lib.hid htr
      clear htr hS hG
      by_cases h9 : r.length < 9
      · have he := HTR.out
        rw [spl_stop_short ver k r h9, List.append_nil] at he
        have HE := Lib.hid he
        clear he
        go_wp2_with fail
        go_quiet (fail)
        go_wp2_with fail
        rw [Exit.noGoto_ret]
        go_ret2
        rw [HE.out]
        have hD : Below wr.heap.size wr (wr.drewN nq) := below_drewN (Below.refl _ _) _
        exact ⟨_, xs, Ar, cr, rfl, hFr.below hD, hSr.below hD, grown_trans hGr (below_grown hD _), hLr⟩
      · by_cases hE : getE r = 0
        · obtain ⟨h9', hC2', hH'⟩ := getE_0 hE
          have hpr0 := bI_lo r 0
          have hpr1 := bI_hi r 0
          have hl0 := hL_lo r
          have hl1 := hL_hi r
          obtain ⟨V, hV⟩ : ∃ x, bI r 0 = x := ⟨_, rfl⟩
          obtain ⟨F, hF⟩ : ∃ x, bI r 1 = x := ⟨_, rfl⟩
          obtain ⟨S, hSS⟩ : ∃ x, hS r = x := ⟨_, rfl⟩
          obtain ⟨O, hO⟩ : ∃ x, bI r 4 = x := ⟨_, rfl⟩
          obtain ⟨L, hLL⟩ : ∃ x, hL r = x := ⟨_, rfl⟩
          rw [hV, hF, hSS, hO, hLL] at hH'
          rw [hV] at hpr0 hpr1
          rw [hLL] at hl0 hl1
          have HX := Lib.hid hE
          have HH := Lib.hid hH'
          by_cases hver : V = ver
          · by_cases hw : r.length < 9 + L.toNat
            · have hx1 : spl ver k r = ([], r, 0) := spl_wait ver k r hk h9 (by unfold erOf; rw [if_neg (fun z => z.2 (hV.trans hver)), hE]) (by rw [hLL]; exact hw)
              have he := HTR.out
              rw [hx1, List.append_nil] at he
              have HE := Lib.hid he
              have hwI : (r.length : Int) < 9 + L := by omega
              clear hC2' hH' hx1 he hV hF hSS hO hLL hE hw h9'
              subst hver
              go_wp2_with fail
              refine (hget_any _ hSr.bs (Nat.le_refl _)).mono ?_
              rintro e w2 ⟨rfl, hb2⟩
              rw [HX.out, HH.out]
              obtain ⟨s0, s1, s2, s3, s4, s5, s6⟩ := spl_cells (hSr.below hb2)
              go_wp2_with fail
              go_quiet (fail)
              go_wp2_with fail
              go_quiet (fail)
              go_wp2_with fail
              rw [Exit.noGoto_ret]
              go_ret2
              rw [HE.out]
              exact ⟨_, xs, Ar, cr, rfl, (wait_end hSr hFr hGr (below_drewN (below_drewN (below_new hb2 _) _) _)).1, (wait_end hSr hFr hGr (below_drewN (below_drewN (below_new hb2 _) _) _)).2.1, (wait_end hSr hFr hGr (below_drewN (below_drewN (below_new hb2 _) _) _)).2.2, hLr⟩
            · have hwI : 9 + L ≤ (r.length : Int) := by omega
              obtain ⟨z, rfl⟩ : ∃ z : Nat, L = z := ⟨L.toNat, by omega⟩
              obtain ⟨j, rfl⟩ : ∃ j, k = j + 1 := ⟨k - 1, by omega⟩
              have hx1 := spl_one ver j r h9 (by unfold erOf; rw [if_neg (fun z => z.2 (hV.trans hver)), hE]) (by rw [hLL]; exact hw)
              have hzz : (hL r).toNat = z := by rw [hLL]; rfl
              have hfr : frOf r = ⟨V, F, S, O, z, (r.drop 9).take z⟩ := by unfold frOf; rw [hV, hF, hSS, hO, hzz, hLL]
              rw [hzz, hfr] at hx1
              have he := HTR.out
              rw [hx1] at he
              have HE := Lib.hid he
              have hcap' := BS.cap hSr.bs
              have hmx' := BS.max hSr.bs
              unfold maxLen at hmx'
              have hU := BS.from_ hSr.bs (k := 9) (by omega)
              have hN := BS.from_ hSr.bs (k := 9 + z) (by omega)
              have hbl : ((r.drop 9).take z).length = z := by rw [List.length_take, List.length_drop]; omega
              obtain ⟨Bd, hBd⟩ : ∃ Bd, (r.drop 9).take z = Bd := ⟨_, rfl⟩
              rw [hBd] at hbl HE
              have HBd := Lib.hid hBd
              subst hbl
              obtain ⟨bA, oA, rfl, _⟩ := BS.at_ hSr.bs (by omega)
              have HN := Lib.hid hN
              clear hN
              clear hC2' hH' hx1 he hV hF hSS hO hLL hE hw h9' hzz hfr hl1 hBd
              subst hver
              simp only [Option.map_some, add_none] at hU
              obtain ⟨AU, hAU⟩ : ∃ AU, (if cr = 9 then some (⟨bA, oA, none⟩ : Addr) else some ⟨bA, oA + 9, none⟩) = AU := ⟨_, rfl⟩
              rw [hAU] at hU
              have HAU := Lib.hid hAU
              clear hAU
              have HU := Lib.hid (BS.upto hU (k := Bd.length) (by omega))
              clear hU
              go_wp2_with fail
              refine (hget_any _ hSr.bs (Nat.le_refl _)).mono ?_
              rintro e w2 ⟨rfl, hb2⟩
              rw [HX.out, HH.out]
              obtain ⟨s0, s1, s2, s3, s4, s5, s6⟩ := spl_cells (hSr.below hb2)
              go_wp2_with fail
              go_quiet (fail)
              go_upto_region 15 with fail
              rw [HBd.out] at HU
              have hB : Below wr.heap.size wr ((w2.alloc (.cells #[.int .u8 V, .int .u8 F, .int .i16 S, .int .u8 O, .int .u32 (Bd.length : Int)] 25)).drewN nq) := below_drewN (below_new hb2 _) _
              obtain ⟨k5, k0, k1, k2, k3, k4, _⟩ := box_row (t := 25) ((Row.new w2 25 #[.int .u8 V, .int .u8 F, .int .i16 S, .int .u8 O, .int .u32 (Bd.length : Int)]).drewN nq)
              obtain ⟨wB, hwB⟩ : ∃ wB, (w2.alloc (.cells #[.int .u8 V, .int .u8 F, .int .i16 S, .int .u8 O, .int .u32 (Bd.length : Int)] 25)).drewN nq = wB := ⟨_, rfl⟩
              rw [hwB] at hB k0 k1 k2 k3 k4 k5 ⊢
              have hUB : SW wB AU Bd.length (cr - 9) Bd := SW.then_ HU.out hB
              have HUB := Lib.hid hUB
              obtain ⟨s0, s1, s2, s3, s4, s5, s6⟩ := spl_cells (hSr.below hB)
              have hFB := hFr.below hB
              have hzle : Bd.length ≤ 140737488355328 := by omega
              have i1 : (9 : Int) + (Bd.length : Int) ≤ (cr : Int) := by omega
              have i2 : (9 : Int) ≤ 9 + (Bd.length : Int) := by omega
              have i3 : (0 : Int) ≤ 9 + (Bd.length : Int) := by omega
              have HTN := Lib.hid (show ((9 : Int) + (Bd.length : Int)).toNat - 9 = Bd.length by omega)
              have hAU := HAU.out
              clear hwB hb2 hUB
              go_cut [6] from 41 to 108 (fun v wx => ∃ xs', Frs wx w.heap.size v (fs ++ [⟨V, F, S, O, Bd.length, Bd⟩]) xs' ∧ Spl wx p V r 0 (some ⟨bA, oA, none⟩) cr ∧ w.grownBy wx (some p))
              case first =>
                go_region_law (first | (refine step_append_fr rfl (.tmp 88) (.tmp 98) rfl (by simp [Act.eval]) w3.heap.size (by simp [Act.eval]) (hF3.below (below_new (Below.refl _ _) _)) ⟨V, F, S, O, Bd.length, Bd⟩ A3 c3 (Row.new w3 _ _) (hbb _) (by omega) ((owns_mono hown3 hmono).alloc _) ?_; intro v' w4 hF4 hg4; have hG4 := grown_own (grown_trans hGr (below_grown (below_new hB3' _) _)) (hF3.below (below_new (Below.refl _ _) _)).row (Nat.le_refl _) hg4; have hS4 := (((hSr.below hB).below hB3).below (below_new (Below.refl _ _) _)).own (hF3.below (below_new (Below.refl _ _) _)).row hg4) | (go_simp; go_at_call 37; rw [HTN.out]; refine (clone_any _ (BS.drew HUB.out) (Nat.le_refl _) hzle).mono ?_; rintro e w3 ⟨v3, rfl, hown3, hb3⟩; obtain ⟨A3, c3, rfl, sw3⟩ := SW.of_own hown3; have hB3 := below_then (w := wB.drew) (Below.refl wB.heap.size wB).drew hb3; have hF3 := hFB.below hB3; have hmono : w.heap.size ≤ wB.drew.heap.size := Nat.le_trans hGr.size hB.size; have hbb : ∀ o, w.heap.size ≤ (w3.alloc o).heap.size := fun o => Nat.le_trans (Nat.le_trans hmono hb3.size) (by simp); have hB3' : Below wr.heap.size wr w3 := below_then hB hB3; obtain ⟨t0, t1, t2, t3, t4, t5, t6⟩ := spl_cells ((hSr.below hB).below hB3); obtain ⟨m0, m1, m2, m3, m4, m5⟩ := put_s k5 k0 k1 k2 k3 k4 hB3))
                all_goals go_wp2_with fail
                all_goals go_meet
                all_goals exact ⟨_, hF4, hS4, hG4⟩
              case rest =>
                obtain ⟨xs', hF4, hS4, hG4⟩ := hcut
                have hN4 := BS.from_ hS4.bs (k := 9 + Bd.length) (by omega)
                have HS4 := Lib.hid hS4
                clear s0 s1 s2 s3 s4 s5 s6 k0 k1 k2 k3 k4 k5 hB hFB
                obtain ⟨s0, s1, s2, s3, s4, s5, s6⟩ := spl_cells hS4
                have i4 : ((9 : Int) + (Bd.length : Int)).toNat = 9 + Bd.length := by omega
                simp only [Option.map_some, add_none] at hN4
                obtain ⟨AN, hAN⟩ : ∃ AN, (if cr = 9 + Bd.length then some (⟨bA, oA, none⟩ : Addr) else some ⟨bA, oA + (9 + Bd.length), none⟩) = AN := ⟨_, rfl⟩
                rw [hAN] at hN4
                have hBN : BT wc AN := by
                  intro a ha
                  rw [← hAN] at ha
                  by_cases hz : cr = 9 + Bd.length
                  · rw [if_pos hz] at ha
                    injection ha with ha
                    subst ha
                    exact hS4.ty ⟨bA, oA, none⟩ rfl
                  · rw [if_neg hz] at ha
                    injection ha with ha
                    subst ha
                    exact hS4.ty ⟨bA, oA, none⟩ rfl
                have hLN : LocOf w A AN := by
                  intro a ha
                  have h1 := hLr ⟨bA, oA, none⟩ rfl
                  rw [← hAN] at ha
                  by_cases hz : cr = 9 + Bd.length
                  · rw [if_pos hz] at ha
                    injection ha with ha
                    subst ha
                    exact h1
                  · rw [if_neg hz] at ha
                    injection ha with ha
                    subst ha
                    exact h1
                have HN4 := Lib.hid hN4
                have HBN := Lib.hid hBN
                clear hN4 hBN
                go_wp2_with fail
                refine ⟨⟨j, fs ++ [⟨V, F, S, O, Bd.length, Bd⟩], xs', r.drop (9 + Bd.length), _, _, Spl.cut HS4.out rfl HN4.out HBN.out, hF4.set_ hS4.row 1 _, grown_trans hG4 (set_grown _ _ _ _), hLN, ?_, ?_, ?_⟩, ?_⟩
                · rw [List.length_drop]; omega
                · rw [List.length_append, List.length_drop, List.length_singleton]; omega
                · rw [HE.out, List.append_assoc]; rfl
                · rw [cut_len s2, len_now q2]; omega
          · have hx1 : spl ver k r = ([], [], 20) := spl_err ver k r (by omega) hk h9 (by unfold erOf; rw [if_pos ⟨hE, fun z => hver (hV.symm.trans z)⟩]; omega) (by unfold erOf; rw [if_pos ⟨hE, fun z => hver (hV.symm.trans z)⟩])
            have he := HTR.out
            rw [hx1, List.append_nil] at he
            have HE := Lib.hid he
            clear hC2' hH' hx1 he hV hF hSS hO hLL hE h9'
            go_wp2_with fail
            refine (hget_any _ hSr.bs (Nat.le_refl _)).mono ?_
            rintro e w2 ⟨rfl, hb2⟩
            rw [HX.out, HH.out]
            obtain ⟨s0, s1, s2, s3, s4, s5, s6⟩ := spl_cells (hSr.below hb2)
            go_wp2_with fail
            go_quiet (fail)
            go_wp2_with fail
            go_quiet (fail)
            go_wp2_with fail
            rw [Exit.noGoto_ret]
            go_ret2
            rw [HE.out]
            exact ⟨_, xs, none, 0, rfl, (err_end nq hSr hFr hGr (below_drewN (below_new hb2 _) _)).1, (err_end nq hSr hFr hGr (below_drewN (below_new hb2 _) _)).2.1, (err_end nq hSr hFr hGr (below_drewN (below_new hb2 _) _)).2.2, fun a ha => by cases ha⟩
        · have hx1 : spl ver k r = ([], [], getE r) := spl_err ver k r (by omega) hk h9 (by unfold erOf; rw [if_neg (fun z => hE z.1)]; exact hE) (by unfold erOf; rw [if_neg (fun z => hE z.1)])
          have hH := getH_no hE
          obtain ⟨x, hx⟩ : ∃ x, getE r = x := ⟨_, rfl⟩
          rw [hx] at hE hx1
          have he := HTR.out
          rw [hx1, List.append_nil] at he
          have HX := Lib.hid hx
          have HH := Lib.hid hH
          have HE := Lib.hid he
          clear hx hx1 hH he
          go_wp2_with fail
          refine (hget_any _ hSr.bs (Nat.le_refl _)).mono ?_
          rintro e w2 ⟨rfl, hb2⟩
          rw [HX.out, HH.out]
          obtain ⟨s0, s1, s2, s3, s4, s5, s6⟩ := spl_cells (hSr.below hb2)
          go_wp2_with fail
          go_quiet (fail)
          go_wp2_with fail
          go_quiet (fail)
          go_wp2_with fail
          rw [Exit.noGoto_ret]
          go_ret2
          rw [HE.out]
          exact ⟨_, xs, none, 0, rfl, (err_end nq hSr hFr hGr (below_drewN (below_new hb2 _) _)).1, (err_end nq hSr hFr hGr (below_drewN (below_new hb2 _) _)).2.1, (err_end nq hSr hFr hGr (below_drewN (below_new hb2 _) _)).2.2, fun a ha => by cases ha⟩
end Go.Proofs.Ytiehhoonfneccaa
