/- The reference's Key and Token: what they compute, of at most 100 texts. -/
import Derived.Test.YtapekipfkghdhaaKI
import Derived.Lib.AppendStr
import Derived.Deep.RegionLaw
import Derived.Deep.CutBlock
namespace Go.Proofs.Ytapekipfkghdhaa
open Go.RowKit
/-- append, as one step of a region that draws, by what it comes to. -/
theorem step_run {ops : Array Oper} {o : Oper} {a : Act} {w : World} {K : Act → World → Prop} {Q : Exit → Act → World → Prop} {E : Prop}
    (hg : o.guard = none) (s x : Operand) (t tn : TypeId) (hop : o.op = Op.call { callee := Callee.builtin Builtin.append, args := #[s, x], argTypes := #[t, tn] }) (vs vx : Value)
    (hs : a.eval s = vs) (hx : a.eval x = vx) {v' : Value} {w' : World} (hr : (Builtin.append_ #[t, tn] o.type #[vs, vx]).run Try.prog w = .ok v' w') (hK : K (a.put o.dst v') w') :
    if Region.wanted o (yielded ops a.tmps) = true then Oper.wp Try.prog o a w K Q else E := by
  have hw : Region.wanted o (yielded ops a.tmps) = true := by simp [Region.wanted, hg]
  rw [if_pos hw]
  unfold Oper.wp
  simp [execOp, hop, resolve, invoke, builtin, hs, hx, hr, Result.andThen]
  exact hK
theorem strCells_bv (l : List UInt8) : Lib.strCells ⟨l.toArray⟩ = bv l := by
  simp [Lib.strCells, bv]
theorem size_arr (l : List UInt8) : (⟨l.toArray⟩ : ByteArray).size = l.length := by simp [ByteArray.size]
theorem wrap_two (n : Nat) (x : Int) (h : n ≤ 65535) (hx : IntKind.u8.wrap (IntKind.i64.wrap ((n : Int) / 256)) = x) : x = (n : Int) / 256 % 256 := by
  rw [← hx, wrap_i64_ediv _ _ (by omega) (by omega) (by omega), IntKind.wrap_u8]
theorem put_two (x : Int) : (bv (putB x 2)).toArray = #[.int .u8 (x / 256 % 256), .int .u8 (x % 256)] := by
  rw [show putB x 2 = [dg x 1, dg x 0] from rfl]
  simp [bv, dg_val, dig]
set_option maxRecDepth 20000 in
set_option maxHeartbeats 1600000 in
theorem rkey_many {A : Option Addr} {n c : Nat} {ls : List (List UInt8)} (w : World) (hts : TS w w.heap.size A n c ls) (h2 : 2 ≤ n) (hmx : n ≤ 100) (hlm : ∀ l ∈ ls, l.length ≤ maxLen) :
    Calls Try.prog 21 #[.slice A n c] w fun e w' => ∃ v N, e = .returned (.tuple #[v, .int .i64 (if (∀ l ∈ ls, l.length ≤ 65535) then 0 else 12)]) ∧ w'.ownsRow w.heap.size 5 1 v N (bv (if (∀ l ∈ ls, l.length ≤ 65535) then (ls.flatMap fun l => putB (l.length : Int) 2 ++ (l ++ [0])) else [])) ∧ Below w.heap.size w w' := by
  obtain ⟨E, hE⟩ : ∃ E : Int, (if (∀ l ∈ ls, l.length ≤ 65535) then 0 else 12) = E := ⟨_, rfl⟩
  obtain ⟨L, hL⟩ : ∃ L : List UInt8, (if (∀ l ∈ ls, l.length ≤ 65535) then (ls.flatMap fun l => putB (l.length : Int) 2 ++ (l ++ [0])) else []) = L := ⟨_, rfl⟩
  rw [hE, hL]
  have HE := Lib.hid hE
  have HL := Lib.hid hL
  clear hE hL
  obtain ⟨i0, hi, hz0, hz1, hz2⟩ := info_parts info_byte
  have hlen := hts.len
  obtain ⟨g, o, rfl, hg, hcell⟩ := hts.at_ (by omega)
  have z0 : ((n : Int) == 0) = false := beq_eq_false_iff_ne.2 (by omega)
  have z1 : ((n : Int) == 1) = false := beq_eq_false_iff_ne.2 (by omega)
  go_enter Try.func21, Try.ntmps21
  go_wp2_with fail
  go_loopw [4, 5] (fun v i wr => ∃ (k N : Nat), k ≤ n ∧ i = .int .i64 k ∧ N ≤ 65538 * k ∧ Hid (∀ l ∈ ls.take k, l.length ≤ 65535) ∧ wr.ownsRow w.heap.size 5 1 v N (bv ((ls.take k).flatMap fun l => putB (l.length : Int) 2 ++ (l ++ [0]))) ∧ Below w.heap.size w wr) (fun _ i _ => n - (intOf i).toNat)
  case atStart => exact ⟨0, 0, Nat.zero_le _, rfl, Nat.le_refl _, Lib.hid (fun l h => by simp at h), World.ownsRow_nil _ _ _ _, Below.refl _ _⟩
  case round =>
    obtain ⟨k, N, hk, rfl, hN, hall, hown, hb⟩ := hrel
    by_cases hlt : k < n
    · have hkl : k < ls.length := by omega
      have hck := (hb.cell (p := ⟨g, o + k, none⟩) hg).trans (hcell k hkl)
      have hmem : ls[k] ∈ ls := List.getElem_mem hkl
      have hlx := hlm _ hmem
      have htk : ls.take (k + 1) = ls.take k ++ [ls[k]] := List.take_succ_eq_append_getElem hkl
      obtain ⟨l, hl⟩ : ∃ l, ls[k] = l := ⟨_, rfl⟩
      rw [hl] at hck hmem hlx htk
      have htk2 := htk
      have HTK := Lib.hid (show (ls.take (k + 1)).flatMap (fun l => putB (l.length : Int) 2 ++ (l ++ [0])) = (((ls.take k).flatMap fun l => putB (l.length : Int) 2 ++ (l ++ [0])) ++ putB (l.length : Int) 2) ++ l ++ [0] by rw [htk, List.flatMap_append, List.flatMap_singleton]; simp)
      obtain ⟨n1, hn1⟩ : ∃ n1, l.length = n1 := ⟨_, rfl⟩
      have hsz := size_arr l
      rw [hn1] at hsz hlx
      unfold strV at hck
      unfold maxLen at hlx
      by_cases hlk : n1 ≤ 65535
      rotate_left
      · have hno : ¬ (∀ l ∈ ls, l.length ≤ 65535) := fun h => hlk (by rw [← hn1]; exact h l hmem)
        have h1 := HE.out
        have h3 := HL.out
        rw [if_neg hno] at h1 h3
        subst h1
        subst h3
        clear htk htk2 hmem hno HE HL hl
        go_wp2_with fail
        go_ret2
        exact ⟨_, 0, rfl, World.ownsRow_nil _ _ _ _, hb⟩
      have HALL := Lib.hid (show ∀ l ∈ ls.take (k + 1), l.length ≤ 65535 by
        rw [htk2]
        intro u hu
        rcases List.mem_append.1 hu with hu | hu
        · exact hall.out u hu
        · simp at hu; subst hu; omega)
      clear htk htk2 hall
      go_wp2_with fail
      obtain ⟨P, hP⟩ : ∃ P, ((ls.take k).flatMap fun l => putB (l.length : Int) 2 ++ (l ++ [0])) = P := ⟨_, rfl⟩
      rw [hP] at hown HTK
      rw [hn1] at HTK
      clear hP
      obtain ⟨x1, hx1⟩ : ∃ x, IntKind.u8.wrap (IntKind.i64.wrap ((n1 : Int) / 256)) = x := ⟨_, rfl⟩
      obtain ⟨x2, hx2⟩ : ∃ x, IntKind.u8.wrap ((n1 : Int).tmod 256) = x := ⟨_, rfl⟩
      have e1 : x1 = (n1 : Int) / 256 % 256 := wrap_two n1 x1 hlk hx1
      have e2 : x2 = (n1 : Int) % 256 := by rw [← hx2, IntKind.wrap_u8, Int.tmod_eq_emod_of_nonneg (by omega)]; omega
      have hlb : SW (wr.alloc (.cells #[.int .u8 x1, .int .u8 x2] 5)).drew (some ⟨wr.heap.size, 0, none⟩) 2 2 (putB (n1 : Int) 2) := by
        refine SW.drew (SW.lit wr 5 _ _ _ rfl ?_ 2 rfl (by rw [putB_len]; decide))
        rw [put_two, e1, e2]
      have hba : Below wr.heap.size wr (wr.alloc (.cells #[.int .u8 x1, .int .u8 x2] 5)).drew := (below_new (Below.refl _ _) _).drew
      have hob := own_blk' hown
      obtain ⟨v5, w5, hrun, hown5, hg5, _⟩ := run_append_bs (wr.alloc (.cells #[.int .u8 x1, .int .u8 x2] 5)).drew w.heap.size 22 22 5 i0 (.int .u8 0) Try.underlying22 hi hz0 hz1 hz2 rfl _ N (bv P) (own_below hown hba) hlb (by omega) (below_then hb hba).size
      rw [← bv_append] at hown5
      have hb5 : Below w.heap.size w w5 := (below_then hb hba).grown hg5 (below_then hb hba).size hob
      have HX1 := Lib.hid hx1
      have HX2 := Lib.hid hx2
      clear hlb hx1 hx2 e1 e2
      have hob6 := own_blk' hown5
      obtain ⟨v7, w7, hrun7, hown7, hg7, _⟩ := Lib.run_append_own_string (P := Try.prog) _ w.heap.size 22 9 22 5 i0 Try.underlying22 Try.underlying9 hi hz0 hz1 hz2 _ (N + 2) _ hown5 ⟨l.toArray⟩ (by rw [hsz]; unfold maxLen; omega) (by rw [hsz]; omega) hb5.size
      rw [hsz, strCells_bv, ← bv_append] at hown7
      have hb7 : Below w.heap.size w w7 := hb5.grown hg7 hb5.size hob6
      have hob7 := own_blk' hown7
      obtain ⟨A7, c7, rfl, _⟩ := SW.of_own hown7
      have hck6 := (hb5.cell (p := ⟨g, o + k, none⟩) hg).trans (hcell k hkl)
      rw [hl] at hck6
      unfold strV at hck6
      have hlz : SW (w7.alloc (.cells #[.int .u8 0] 5)) (some ⟨w7.heap.size, 0, none⟩) 1 1 [0] := SW.lit w7 5 _ _ [0] rfl rfl 1 rfl (by decide)
      clear hl
      go_region_law (first | (rw [HX1.out, HX2.out]; refine step_run rfl (.tmp 28) (.tmp 43) _ _ rfl _ _ (by simp [Act.eval, Act.put]) (by simp [Act.eval, Act.put]) hrun ?_) | (refine step_run rfl (.tmp 28) (.tmp 43) _ _ rfl _ _ (by simp [Act.eval, Act.put]) (by simp [Act.eval, Act.put]) hrun ?_))
      · go_wp2_with (at_builtin; first | (refine Lib.wpList_append_run _ rfl _ _ _ _ rfl _ _ rfl rfl _ _ hrun7 ?_) | (refine wpList_append_bs _ rfl _ _ 22 rfl w.heap.size 5 i0 (.int .u8 0) Try.underlying22 hi hz0 hz1 hz2 rfl _ (N + 2 + n1) _ rfl (hown7.alloc _) rfl hlz (by omega) (below_new hb7 _).size ?_))
        intro v8 w8 hown8 hg8 hat8
        rw [← bv_append] at hown8
        go_wp2_with fail
        exact ⟨⟨k + 1, N + 2 + n1 + 1, by omega, by go_num, by omega, HALL, by rw [HTK.out]; simpa [List.append_assoc] using hown8, (below_new hb7 _).grown hg8 (below_new hb7 _).size hob7⟩, by simp [intOf]; omega⟩
      · go_wp2_with (at_builtin; first | (refine Lib.wpList_append_run _ rfl _ _ _ _ rfl _ _ rfl rfl _ _ hrun7 ?_) | (refine wpList_append_bs _ rfl _ _ 22 rfl w.heap.size 5 i0 (.int .u8 0) Try.underlying22 hi hz0 hz1 hz2 rfl _ (N + 2 + n1) _ rfl (hown7.alloc _) rfl hlz (by omega) (below_new hb7 _).size ?_))
        intro v8 w8 hown8 hg8 hat8
        rw [← bv_append] at hown8
        go_wp2_with fail
        exact ⟨⟨k + 1, N + 2 + n1 + 1, by omega, by go_num, by omega, HALL, by rw [HTK.out]; simpa [List.append_assoc] using hown8, (below_new hb7 _).grown hg8 (below_new hb7 _).size hob7⟩, by simp [intOf]; omega⟩
    · obtain rfl : k = n := by omega
      have hall := hall.out
      rw [List.take_of_length_le (by omega)] at hown hall
      have h1 := HE.out
      have h3 := HL.out
      rw [if_pos hall] at h1 h3
      subst h1
      rw [h3] at hown
      clear h3 hall HE HL
      go_wp2_with fail
      go_ret2
      exact ⟨_, _, rfl, hown, hb⟩
theorem str_bytes (w : World) (l : List UInt8) (hl : l.length ≤ maxLen) : ∃ A c w', (convert 9 22 (.string ⟨l.toArray⟩)).run Try.prog w = .ok (.slice A l.length c) w' ∧ SW w' A l.length c l ∧ Below w.heap.size w w' := by
  have hr := run_bytes_of_string (P := Try.prog) w 9 22 5 ⟨l.toArray⟩ Try.underlying9 Try.underlying22 Try.underlying5
  rw [size_arr] at hr
  have hG1 := grownCap_ge w l.length 0 5
  have hG2 := grownCap_le_maxLen w l.length 0 5 hl
  refine ⟨_, _, _, hr, ⟨rfl, hG1, hG2, (fun e => by cases e), fun _ => ⟨w.heap.size, 0, rfl, by simp, fun i hi => ?_⟩⟩, below_then (w := w.drew) (Below.refl _ _).drew (below_new (Below.refl _ _) _)⟩
  have h1 := World.cell?_alloc_mark w.drew (bytesRow ⟨l.toArray⟩ (grownCap w l.length 0 5)) 5 ((bytesRow ⟨l.toArray⟩ (grownCap w l.length 0 5)).size, (bytesRow ⟨l.toArray⟩ (grownCap w l.length 0 5)).size + 1) i
  rw [Nat.zero_add]
  refine h1.trans ?_
  rw [bytesRow_at ⟨l.toArray⟩ _ i (by simpa using hi)]
  rfl
theorem rkey_none (A : Option Addr) (c : Nat) (w : World) : Calls Try.prog 21 #[.slice A 0 c] w fun e w' => e = .returned (.tuple #[.slice none 0 0, .int .i64 1]) ∧ w = w' := by
  go_enter Try.func21, Try.ntmps21
  go_wp2_with fail
  go_ret2
  exact ⟨rfl, rfl⟩
theorem rkey_one {A : Option Addr} {c : Nat} {ls : List (List UInt8)} (w : World) (hts : TS w w.heap.size A 1 c ls) (hll : ∀ l ∈ ls, l.length ≤ maxLen) :
    Calls Try.prog 21 #[.slice A 1 c] w fun e w' => ∃ A' N c', e = .returned (.tuple #[.slice A' N c', .int .i64 0]) ∧ SW w' A' N c' ls.flatten ∧ Below w.heap.size w w' := by
  obtain ⟨l, rfl⟩ : ∃ l, ls = [l] := List.length_eq_one_iff.1 hts.len
  obtain ⟨g, o, rfl, hg, hcell⟩ := hts.at_ (by omega)
  have hck := hcell 0 (by simp)
  simp only [List.getElem_cons_zero, Nat.add_zero] at hck
  unfold strV at hck
  obtain ⟨A', c', w1, hrun, sw, hb⟩ := str_bytes w l (hll l (by simp))
  clear hcell hts
  go_enter Try.func21, Try.ntmps21
  go_wp2_with fail
  go_ret2
  exact ⟨_, _, _, rfl, by simpa using sw, hb⟩
theorem keyE_ls {ps : List Part} {B : Nat} {w : World} (hp : ∀ p ∈ ps, BS w B p.A p.n p.c p.l) : tooLong ps = false ↔ ∀ l ∈ ps.map (·.l), l.length ≤ 65535 := by
  unfold tooLong
  rw [List.any_eq_false]
  constructor
  · intro h l hl
    obtain ⟨p, hm, rfl⟩ := List.mem_map.1 hl
    have := h p hm
    rw [(hp p hm).len]
    simp at this
    omega
  · intro h p hm
    have := h p.l (List.mem_map.2 ⟨p, hm, rfl⟩)
    rw [(hp p hm).len] at this
    simp
    omega
theorem keyL_ls {ps : List Part} {B : Nat} {w : World} (hp : ∀ p ∈ ps, BS w B p.A p.n p.c p.l) : (ps.map (·.l)).flatMap (fun l => putB (l.length : Int) 2 ++ (l ++ [0])) = keyL ps := by
  unfold keyL
  rw [List.flatMap_map, List.flatMap_def, List.flatMap_def, List.map_congr_left fun p hm => by rw [(hp p hm).len]]
/-- The reference's key of parts' texts. -/
theorem rkey_any {A : Option Addr} {n c B : Nat} {ps : List Part} (w w0 : World) (hp : ∀ p ∈ ps, BS w0 B p.A p.n p.c p.l) (hts : TS w w.heap.size A n c (ps.map (·.l))) (hmx : n ≤ 100) :
    Calls Try.prog 21 #[.slice A n c] w fun e w' => ∃ A' N c', e = .returned (.tuple #[.slice A' N c', .int .i64 (keyE ps)]) ∧ SW w' A' N c' (keyB ps) ∧ Below w.heap.size w w' := by
  have hlen := hts.len
  rw [List.length_map] at hlen
  have hlm : ∀ l ∈ ps.map (·.l), l.length ≤ maxLen := by
    intro l hl
    obtain ⟨p, hm, rfl⟩ := List.mem_map.1 hl
    rw [(hp p hm).len]
    exact Nat.le_trans (hp p hm).cap (hp p hm).max
  by_cases h0 : n = 0
  · subst h0
    refine (rkey_none A c w).mono ?_
    rintro e w' ⟨rfl, rfl⟩
    exact ⟨none, 0, 0, by unfold keyE; rw [if_pos hlen], by unfold keyB; rw [if_pos hlen]; exact BS.none_ _ _, Below.refl _ _⟩
  · by_cases h1 : n = 1
    · subst h1
      refine (rkey_one w hts hlm).mono ?_
      rintro e w' ⟨A', N, c', rfl, sw, hb⟩
      exact ⟨A', N, c', by unfold keyE; rw [if_neg (by omega), if_pos hlen], by unfold keyB; rw [if_neg (by omega), if_pos hlen]; exact sw, hb⟩
    · refine (rkey_many w hts (by omega) hmx hlm).mono ?_
      rintro e w' ⟨v, N, rfl, hown, hb⟩
      obtain ⟨A', c', rfl, sw⟩ := SW.of_own hown
      have e1 : keyE ps = if tooLong ps then 12 else 0 := by unfold keyE; rw [if_neg (by omega), if_neg (by omega)]
      have e2 : keyB ps = if tooLong ps then [] else keyL ps := by unfold keyB; rw [if_neg (by omega), if_neg (by omega)]
      refine ⟨A', N, c', ?_, ?_, hb⟩
      · rw [e1]
        by_cases ht : tooLong ps = false
        · rw [if_pos ((keyE_ls hp).1 ht), if_neg (by rw [ht]; simp)]
        · rw [if_neg (fun h => ht ((keyE_ls hp).2 h)), if_pos (by simpa using ht)]
      · rw [e2]
        by_cases ht : tooLong ps = false
        · rw [if_pos ((keyE_ls hp).1 ht), keyL_ls hp] at sw
          rw [if_neg (by rw [ht]; simp)]
          exact sw
        · rw [if_neg (fun h => ht ((keyE_ls hp).2 h))] at sw
          rw [if_pos (by simpa using ht)]
          exact sw
theorem rrtok_any {A : Option Addr} {n c B : Nat} {ps : List Part} (w w0 : World) (hp : ∀ p ∈ ps, BS w0 B p.A p.n p.c p.l) (hts : TS w w.heap.size A n c (ps.map (·.l))) (hmx : n ≤ 100) (hn : (keyB ps).length ≤ 9223372036854775791) :
    Calls Try.prog 24 #[.slice A n c] w fun e w' => e = .returned (.tuple #[.int .i64 (if keyE ps = 0 then tok (hh (keyB ps)) else 0), .int .i64 (keyE ps)]) ∧ Below w.heap.size w w' := by
  have hk := rkey_any w w0 hp hts hmx
  obtain ⟨x, hx⟩ : ∃ x, keyE ps = x := ⟨_, rfl⟩
  rw [hx] at hk ⊢
  have HK := Lib.hid hk
  clear hk
  by_cases h0 : x = 0
  · subst h0
    rw [if_pos rfl]
    go_enter Try.func24, Try.ntmps24
    go_wp2_with fail
    refine HK.out.mono ?_
    rintro e w1 ⟨A1, N, c1, rfl, sw, hb⟩
    have hN := BS.len sw
    go_wp2_with fail
    refine (rtoken_any _ sw (by omega)).mono ?_
    rintro e w2 ⟨rfl, rfl⟩
    go_wp2_with fail
    go_ret2
    exact ⟨rfl, hb⟩
  · rw [if_neg h0]
    clear hx
    go_enter Try.func24, Try.ntmps24
    go_wp2_with fail
    refine HK.out.mono ?_
    rintro e w1 ⟨A1, N, c1, rfl, sw, hb⟩
    go_wp2_with fail
    go_ret2
    exact ⟨rfl, hb⟩
end Go.Proofs.Ytapekipfkghdhaa
