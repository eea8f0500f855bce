/- The document's All: what it computes, of at most 2^36 bytes. -/
import Derived.Test.YtiehhoonfneccaaSP
namespace Go.Proofs.Ytiehhoonfneccaa
open Go.RowKit
set_option maxRecDepth 20000 in
set_option maxHeartbeats 1000000 in
theorem all_any {A : Option Addr} {n c : Nat} {l : List UInt8} {fs : List Fr} {r : List UInt8} {x : Int} (ver : Int) (w : World) (hl : SW w A n c l) (hn : n ≤ 68719476736) (hsp : sp ver l = (fs, r, x)) (rl : Nat) (hrl : r.length = rl) (hv0 : 0 ≤ ver) (hv1 : ver < 256) :
    Calls Try.prog 25 #[.int .u8 ver, .slice A n c] w fun e w' => ∃ v, e = .returned (.tuple #[v, .int .i64 ((n - rl : Nat) : Int), .int .i64 x]) ∧ FX w' w.heap.size v fs ∧ Below w.heap.size w w' := by
  have hlen := BS.len hl
  have hcap := BS.cap hl
  have hmx := BS.max hl
  unfold maxLen at hmx
  have hrb : rl ≤ n := by
    have := sp_cnt ver _ l (Nat.le_refl _)
    rw [hsp] at this
    simp only at this
    omega
  have HSP := Lib.hid hsp
  have HRL := Lib.hid hrl
  obtain ⟨at_, hat⟩ : ∃ a, n - rl = a := ⟨_, rfl⟩
  rw [hat]
  have HAT := Lib.hid hat
  clear hsp hrl hat
  go_enter Try.func25, Try.ntmps25
  go_wp2_with fail
  go_loopw [7, 8] (fun v i wr => ∃ (t : Nat) (gs : List Fr), t ≤ n ∧ i = .int .i64 t ∧ gs.length ≤ t ∧ FX wr w.heap.size v gs ∧ Below w.heap.size w wr ∧ Hid (sp ver l = (gs ++ (sp ver (l.drop t)).1, (sp ver (l.drop t)).2))) (fun _ i _ => n - (intOf i).toNat)
  case atStart => exact ⟨0, [], Nat.zero_le _, rfl, Nat.le_refl _, FX.nil _ _, Below.refl _ _, Lib.hid rfl⟩
  case round =>
    obtain ⟨t, gs, ht, rfl, hgl, hFX, hb, htr⟩ := hrel
    have hld : (l.drop t).length = n - t := by rw [List.length_drop, hlen]
    have hlr := hl.then_ hb
    by_cases h9 : n - t < 9
    · have h1 := htr.out
      rw [HSP.out, sp_short ver (l.drop t) (by rw [hld]; exact h9), List.append_nil] at h1
      simp only [Prod.mk.injEq] at h1
      obtain ⟨rfl, e2, rfl⟩ := h1
      have h3 := HRL.out
      have h4 := HAT.out
      rw [e2, hld] at h3
      have hta : at_ = t := by omega
      subst hta
      have h9I : (n : Int) - (at_ : Int) < 9 := by omega
      clear e2 h3 h4 htr hld hl hlr
      go_wp2_with fail
      go_ret3
      exact ⟨_, rfl, hFX, hb⟩
    · have h9I : ¬ (n : Int) - (t : Int) < 9 := by omega
      obtain ⟨bA, oA, rfl, _⟩ := BS.at_ hlr (by omega)
      have hF := BS.from_ hlr (k := t) (by omega)
      rw [if_neg (by omega)] at hF
      simp only [Option.map_some, add_none] at hF
      have uc : ¬ c = t := by omega
      have it : (t : Int) ≤ (n : Int) := by omega
      obtain ⟨d, hd⟩ : ∃ d, l.drop t = d := ⟨_, rfl⟩
      rw [hd] at hF hld htr
      have HD := Lib.hid hd
      have HF := Lib.hid hF
      clear hd hF
      by_cases hE : getE d = 0
      · obtain ⟨_, hC2', hH'⟩ := getE_0 hE
        have hpr0 := bI_lo d 0
        have hpr1 := bI_hi d 0
        have hl0 := hL_lo d
        have hl1 := hL_hi d
        have hvI : erOf ver d = if bI d 0 ≠ ver then 20 else 0 := by unfold erOf; rw [hE]; simp
        obtain ⟨V, hV⟩ : ∃ x, bI d 0 = x := ⟨_, rfl⟩
        obtain ⟨F, hF2⟩ : ∃ x, bI d 1 = x := ⟨_, rfl⟩
        obtain ⟨S, hSS⟩ : ∃ x, hS d = x := ⟨_, rfl⟩
        obtain ⟨O, hO⟩ : ∃ x, bI d 4 = x := ⟨_, rfl⟩
        obtain ⟨L, hLL⟩ : ∃ x, hL d = x := ⟨_, rfl⟩
        rw [hV, hF2, hSS, hO, hLL] at hH'
        rw [hV] at hpr0 hpr1 hvI
        rw [hLL] at hl0 hl1
        have HX := Lib.hid hE
        have HH := Lib.hid hH'
        by_cases hver : V = ver
        · rw [if_neg (fun h => h hver)] at hvI
          by_cases hw : n - t < 9 + L.toNat
          · have h1 := htr.out
            rw [HSP.out, sp_wait ver d (by omega) hvI (by rw [hLL]; omega), List.append_nil] at h1
            simp only [Prod.mk.injEq] at h1
            obtain ⟨rfl, e2, rfl⟩ := h1
            have h3 := HRL.out
            have h4 := HAT.out
            rw [e2, hld] at h3
            have hta : at_ = t := by omega
            subst hta
            have hwI : (n : Int) < (at_ : Int) + 9 + L := by omega
            clear e2 h3 h4 htr hld hl hlr hC2' hH' hvI hV hF2 hSS hO hLL hE hw
            subst hver
            go_wp2_with fail
            refine (rget_all _ HF.out (Nat.le_refl _)).mono ?_
            rintro e w2 ⟨rfl, hb2⟩
            rw [HH.out, HX.out]
            go_wp2_with fail
            go_ret3
            exact ⟨_, rfl, own_below hFX (below_new hb2 _), below_then hb (below_new hb2 _)⟩
          · obtain ⟨z, rfl⟩ : ∃ z : Nat, L = z := ⟨L.toNat, by omega⟩
            have hzz : (hL d).toNat = z := by rw [hLL]; rfl
            have hw : t + 9 + z ≤ n := by simp at hw; omega
            have h1 := htr.out
            have hd9 : d.drop (9 + z) = l.drop (t + 9 + z) := by rw [← HD.out, List.drop_drop]; congr 1; omega
            have hfr : frOf d = ⟨V, F, S, O, z, (d.drop 9).take z⟩ := by unfold frOf; rw [hV, hF2, hSS, hO, hzz, hLL]
            rw [sp_one ver d (by omega) hvI (by rw [hzz]; omega), hzz, hfr, hd9] at h1
            have hbl : ((d.drop 9).take z).length = z := by rw [List.length_take, List.length_drop]; omega
            obtain ⟨bd, hbd⟩ : ∃ bd, (d.drop 9).take z = bd := ⟨_, rfl⟩
            rw [hbd] at h1
            have HTR := Lib.hid (show sp ver l = ((gs ++ [⟨V, F, S, O, z, bd⟩]) ++ (sp ver (l.drop (t + 9 + z))).1, (sp ver (l.drop (t + 9 + z))).2) by rw [h1, List.append_assoc]; rfl)
            have hgb : gs.length ≤ 1099511627776 := by omega
            have hob := fun k hk => (hFX.lt k hk).1
            clear h1 hfr hzz hl1
            subst hver
            obtain ⟨T9, hT9⟩ : ∃ T9, t + 9 = T9 := ⟨_, rfl⟩
            obtain ⟨TZ, hTZ⟩ : ∃ TZ, t + 9 + z = TZ := ⟨_, rfl⟩
            have hW9 : IntKind.i64.wrap ((t : Int) + 9) = (T9 : Int) := by rw [IntKind.wrap_i64]; omega
            have hZI : (T9 : Int) + (z : Int) = (TZ : Int) := by omega
            have hTT : TZ - T9 = z := by omega
            obtain ⟨AU, hAU⟩ : ∃ AU, (if c = T9 then some (⟨bA, oA, none⟩ : Addr) else some ⟨bA, oA + T9, none⟩) = AU := ⟨_, rfl⟩
            have hU : SW wr AU z (c - T9) bd := by
              have h2 := BS.from_ hlr (k := T9) (by omega)
              simp only [Option.map_some, add_none] at h2
              rw [hAU] at h2
              have h3 := BS.upto h2 (k := z) (by omega)
              have e : l.drop T9 = d.drop 9 := by rw [← hT9, ← List.drop_drop, HD.out]
              rw [e, hbd] at h3
              exact h3
            have HU := Lib.hid hU
            rw [hTZ] at HTR
            have i1 : (TZ : Int) ≤ (c : Int) := by omega
            have i2 : (T9 : Int) ≤ (TZ : Int) := by omega
            have i3 : (TZ : Int) ≤ (n : Int) := by omega
            have i6 : TZ ≤ n := by omega
            have i7 : t < TZ := by omega
            clear htr hld hlr hC2' hH' hvI hV hF2 hSS hO hLL hE hw hU hd9 hbl hT9 hTZ
            go_wp2_with fail
            refine (rget_all _ HF.out (Nat.le_refl _)).mono ?_
            rintro e w2 ⟨rfl, hb2⟩
            rw [HH.out, HX.out]
            obtain ⟨k5, k0, k1, k2, k3, k4, _⟩ := box_row (Row.new w2 32 #[.int .u8 V, .int .u8 F, .int .i16 S, .int .u8 O, .int .u32 (z : Int)])
            have hba : Below wr.heap.size wr (w2.alloc (.cells #[.int .u8 V, .int .u8 F, .int .i16 S, .int .u8 O, .int .u32 (z : Int)] 32)) := below_new hb2 _
            have s0 := str_now (BS.drew (HU.out.then_ hba))
            go_upto_region 11 with fail
            obtain ⟨w3, hw3⟩ : ∃ w3, w2.alloc (.cells #[.int .u8 V, .int .u8 F, .int .i16 S, .int .u8 O, .int .u32 (z : Int)] 32) = w3 := ⟨_, rfl⟩
            rw [hw3] at k0 k1 k2 k3 k4 k5 hba s0 ⊢
            clear hw3
            have hbc : ∀ o, Below wr.heap.size wr (w3.alloc o).drew := fun o => (below_new hba o).drew
            go_region_law (first | (refine step_append_fx rfl (.tmp 48) (.tmp 57) rfl (by simp [Act.eval]) w3.heap.size (by simp [Act.eval]) (own_below hFX (hbc _)) ⟨V, F, S, O, z, bd⟩ (Row.drew (Row.new w3 _ _)) (below_then hb (hbc _)).size hgb ?_; intro v' w4 hF4 hg4))
            all_goals go_wp2_with fail
            all_goals exact ⟨⟨TZ, gs ++ [⟨V, F, S, O, z, bd⟩], by omega, rfl, by rw [List.length_append, List.length_singleton]; omega, hF4, (below_then hb (hbc _)).grown hg4 (below_then hb (hbc _)).size hob, HTR⟩, by simp [intOf]; omega⟩
        · rw [if_pos hver] at hvI
          have h1 := htr.out
          rw [HSP.out, sp_err ver d (by omega) (by rw [hvI]; decide), hvI, List.append_nil] at h1
          simp only [Prod.mk.injEq] at h1
          obtain ⟨rfl, e2, rfl⟩ := h1
          have h3 := HRL.out
          have h4 := HAT.out
          rw [e2] at h3
          have hta : at_ = n := by simp at h3; omega
          subst hta
          have hvb : (V != ver) = true := by simpa using hver
          clear e2 h3 h4 htr hld hl hlr hC2' hH' hvI hV hF2 hSS hO hLL hE
          go_wp2_with fail
          refine (rget_all _ HF.out (Nat.le_refl _)).mono ?_
          rintro e w2 ⟨rfl, hb2⟩
          rw [HH.out, HX.out]
          go_wp2_with fail
          go_ret3
          exact ⟨_, rfl, own_below hFX (below_new hb2 _), below_then hb (below_new hb2 _)⟩
      · have h1 := htr.out
        have hee : erOf ver d = getE d := by unfold erOf; rw [if_neg (fun z => hE z.1)]
        rw [HSP.out, sp_err ver d (by omega) (by rw [hee]; exact hE), hee, List.append_nil] at h1
        simp only [Prod.mk.injEq] at h1
        obtain ⟨rfl, e2, e3⟩ := h1
        have h3 := HRL.out
        have h4 := HAT.out
        rw [e2] at h3
        have hta : at_ = n := by simp at h3; omega
        subst hta
        have hH := getH_no hE
        rw [← e3] at hE
        have HH := Lib.hid hH
        have HX := Lib.hid e3.symm
        clear e2 e3 h3 h4 htr hld hl hlr hH hee
        go_wp2_with fail
        refine (rget_all _ HF.out (Nat.le_refl _)).mono ?_
        rintro e w2 ⟨rfl, hb2⟩
        rw [HH.out, HX.out]
        go_wp2_with fail
        go_ret3
        exact ⟨_, rfl, own_below hFX (below_new hb2 _), below_then hb (below_new hb2 _)⟩
end Go.Proofs.Ytiehhoonfneccaa
