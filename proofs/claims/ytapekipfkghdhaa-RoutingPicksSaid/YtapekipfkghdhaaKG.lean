/- awake of chapter 12. No condition. -/
import Derived.Test.YtapekipfkghdhaaKF
namespace Go.Proofs.Ytapekipfkghdhaa
open Go.RowKit
theorem PS.lit (w : World) (t : TypeId) (b : Nat) (ps : List Part) (cs : Array Value) (hb : b = w.heap.size) (h : cs = (ps.map Part.v).toArray) (n : Nat) (hn : n = ps.length) (hm : ps.length ≤ maxLen) (hbs : ∀ p ∈ ps, SW w p.A p.n p.c p.l) : PS (w.alloc (.cells cs t)) (w.alloc (.cells cs t)).heap.size (some ⟨b, 0, none⟩) n n ps := by
  subst hb
  subst h
  subst hn
  refine ⟨rfl, Nat.le_refl _, hm, fun _ => ⟨_, 0, rfl, by simp, fun i hi => ?_, fun i hi => ?_⟩⟩
  · rw [Nat.zero_add, (Row.new w t _).cell]
    simp [hi, Part.v]
  · exact (hbs _ (List.getElem_mem hi)).alloc _
theorem own_len {w : World} {base e N : Nat} {v : Value} {l : List UInt8} (h : w.ownsRow base e 1 v N (bv l)) : l.length = N := by
  have := h.1
  rw [bv_len] at this
  omega
theorem aw_key : keyE [⟨none, 1, 1, [97]⟩, ⟨none, 1, 1, [98]⟩] = 0 ∧ keyB [⟨none, 1, 1, [97]⟩, ⟨none, 1, 1, [98]⟩] = [0, 1, 97, 0, 0, 1, 98, 0] := by
  constructor <;> kernel_rfl
theorem key_irrel (A A' : Option Addr) (n n' c c' : Nat) (A2 A2' : Option Addr) (n2 n2' c2 c2' : Nat) (l l2 : List UInt8) (h : n = n') (h2 : n2 = n2') : keyE [⟨A, n, c, l⟩, ⟨A2, n2, c2, l2⟩] = keyE [⟨A', n', c', l⟩, ⟨A2', n2', c2', l2⟩] ∧ keyB [⟨A, n, c, l⟩, ⟨A2, n2, c2, l2⟩] = keyB [⟨A', n', c', l⟩, ⟨A2', n2', c2', l2⟩] := by
  subst h
  subst h2
  exact ⟨rfl, rfl⟩
theorem aw_prt : prt 9 [0, 1, 97, 0, 0, 1, 98, 0] = ([[97], [98]], 0) := by kernel_rfl
theorem aw_tok : tok (hh []) = 0 := by kernel_rfl
theorem len_two {ps : List Part} {a b : List UInt8} (h : ps.map (·.l) = [a, b]) : ps.length = 2 := by
  have := congrArg List.length h
  simpa using this
theorem len_one {ps : List Part} {a : List UInt8} (h : ps.map (·.l) = [a]) : ps.length = 1 := by
  have := congrArg List.length h
  simpa using this
theorem SW.mark (w : World) (t : TypeId) (b : Nat) (l : List UInt8) (cs : Array Value) (f : Nat × Nat) (hb : b = w.heap.size) (h : cs = (bv l).toArray) (n : Nat) (hn : n = l.length) (hm : l.length ≤ maxLen) : SW (w.alloc (.cells cs t f)) (some ⟨b, 0, none⟩) n n l := by
  subst hb
  have := BS.mark w t l cs f h n hn hm
  unfold SW
  simpa using this
theorem US.lit1 (w : World) (t : TypeId) (z : Nat) (hz : z < 65536) : US (w.alloc (.cells #[.int .u16 (z : Int)] t)) (w.alloc (.cells #[.int .u16 (z : Int)] t)).heap.size (some ⟨w.heap.size, 0, none⟩) 1 1 [z] := by
  refine ⟨rfl, Nat.le_refl _, by decide, fun u hu => by simp at hu; omega, fun _ => ⟨_, 0, rfl, by simp, fun i hi => ?_⟩⟩
  obtain rfl : i = 0 := by simpa using hi
  rw [Nat.zero_add, (Row.new w t _).cell]
  rfl
theorem VS.lit1 (w : World) (t : TypeId) (b : Nat) (K : Int) (p : Part) (hb : b = w.heap.size) (hK : -9223372036854775808 ≤ K ∧ K ≤ 9223372036854775807) (hp : SW w p.A p.n p.c p.l) : VS (w.alloc (.cells #[.int .i64 K, p.v] t)) (w.alloc (.cells #[.int .i64 K, p.v] t)).heap.size (some ⟨b, 0, none⟩) 1 1 [⟨K, p⟩] := by
  subst hb
  refine ⟨rfl, Nat.le_refl _, by decide, fun u hu => by simp at hu; subst hu; exact hK, fun _ => ⟨_, 0, rfl, by simp, fun i hi => ?_, fun i hi => ?_, fun i hi => ?_⟩⟩
  all_goals obtain rfl : i = 0 := by simpa using hi
  · rw [(Row.new w t _).cell]; rfl
  · rw [(Row.new w t _).cell]; rfl
  · exact hp.alloc _
theorem US.then_ {w w' : World} {n c : Nat} {A : Option Addr} {zs : List Nat} (h : US w w.heap.size A n c zs) (hb : Below w.heap.size w w') : US w' w'.heap.size A n c zs :=
  ⟨h.len, h.cap, h.max, h.rng, fun hn => by
    obtain ⟨g, o, e, hg, hp⟩ := (h.below hb).at_ hn
    exact ⟨g, o, e, Nat.lt_of_lt_of_le hg hb.size, hp⟩⟩
theorem VS.then_ {w w' : World} {n c : Nat} {A : Option Addr} {vs : List Val} (h : VS w w.heap.size A n c vs) (hb : Below w.heap.size w w') : VS w' w'.heap.size A n c vs :=
  ⟨h.len, h.cap, h.max, h.rng, fun hn => by
    obtain ⟨g, o, e, hg, hp⟩ := (h.below hb).at_ hn
    exact ⟨g, o, e, Nat.lt_of_lt_of_le hg hb.size, hp.kind, hp.cell, fun i hi => (hp.bs i hi).more hb.size⟩⟩
theorem PS.then_ {w w' : World} {n c : Nat} {A : Option Addr} {ps : List Part} (h : PS w w.heap.size A n c ps) (hb : Below w.heap.size w w') : PS w' w'.heap.size A n c ps :=
  ⟨h.len, h.cap, h.max, fun hn => by
    obtain ⟨g, o, e, hg, hp⟩ := (h.below hb).at_ hn
    exact ⟨g, o, e, Nat.lt_of_lt_of_le hg hb.size, hp.cell, fun i hi => (hp.bs i hi).more hb.size⟩⟩
theorem TS.then_ {w w' : World} {n c : Nat} {A : Option Addr} {ls : List (List UInt8)} (h : TS w w.heap.size A n c ls) (hb : Below w.heap.size w w') : TS w' w'.heap.size A n c ls :=
  ⟨h.len, h.cap, h.max, fun hn => by
    obtain ⟨g, o, e, hg, hp⟩ := (h.below hb).at_ hn
    exact ⟨g, o, e, Nat.lt_of_lt_of_le hg hb.size, hp⟩⟩
theorem pick_x (A : Option Addr) (c : Nat) : (if ([0] : List Nat).all (okAt [⟨2, ⟨A, 1, c, [120]⟩⟩]) then (0 : Int) else 1) = 0 ∧ (if ([0] : List Nat).all (okAt [⟨2, ⟨A, 1, c, [120]⟩⟩]) then pickL [⟨2, ⟨A, 1, c, [120]⟩⟩] [0] else []) = [[120]] := ⟨rfl, rfl⟩
set_option maxRecDepth 20000 in
set_option maxHeartbeats 1600000 in
theorem awake12 (w : World) : Calls Try.prog 19 #[] w fun e w' => e = .returned (.bool true) ∧ Below w.heap.size w w' := by
  have cv1 := Joins.run_convert_bytes_const_at (P := Try.prog) w 22 5 #[.int .u8 97] 1 1 w.heap.size rfl Try.underlying22 Try.underlying5
  have sa : SW (w.alloc (.cells #[.int .u8 97] 5 (1, 2))) (some ⟨w.heap.size, 0, none⟩) 1 1 [97] := SW.mark w 5 _ [97] _ _ rfl rfl 1 rfl (by decide)
  have cv2 := Joins.run_convert_bytes_const_at (P := Try.prog) (w.alloc (.cells #[.int .u8 97] 5 (1, 2))) 22 5 #[.int .u8 98] 1 1 (w.heap.size + 1) (by simp) Try.underlying22 Try.underlying5
  have sb : SW ((w.alloc (.cells #[.int .u8 97] 5 (1, 2))).alloc (.cells #[.int .u8 98] 5 (1, 2))) (some ⟨w.heap.size + 1, 0, none⟩) 1 1 [98] := SW.mark _ 5 _ [98] _ _ (by simp) rfl 1 rfl (by decide)
  have hps := PS.lit ((w.alloc (.cells #[.int .u8 97] 5 (1, 2))).alloc (.cells #[.int .u8 98] 5 (1, 2))) 22 (w.heap.size + 1 + 1) [⟨some ⟨w.heap.size, 0, none⟩, 1, 1, [97]⟩, ⟨some ⟨w.heap.size + 1, 0, none⟩, 1, 1, [98]⟩] #[.slice (some ⟨w.heap.size, 0, none⟩) 1 1, .slice (some ⟨w.heap.size + 1, 0, none⟩) 1 1] (by simp) rfl 2 rfl (by simp [maxLen]) (by
    intro p hp
    simp at hp
    rcases hp with rfl | rfl
    · exact sa.alloc _
    · exact sb)
  have hk1 := key_irrel (some ⟨w.heap.size, 0, none⟩) none 1 1 1 1 (some ⟨w.heap.size + 1, 0, none⟩) none 1 1 1 1 [97] [98] rfl rfl
  have hkey := key_any _ hps (by omega) (by
    intro k hk
    match k, hk with
    | 0, _ => show (1 : Nat) ≤ 140737488355328; omega
    | 1, _ => show (1 : Nat) ≤ 140737488355328; omega)
  rw [hk1.1, hk1.2, aw_key.1, aw_key.2] at hkey
  have HKEY := Lib.hid hkey
  have hb0 := below_new (below_new (below_new (Below.refl w.heap.size w) (.cells #[.int .u8 97] 5 (1, 2))) (.cells #[.int .u8 98] 5 (1, 2))) (.cells #[.slice (some ⟨w.heap.size, 0, none⟩) 1 1, .slice (some ⟨w.heap.size + 1, 0, none⟩) 1 1] 22)
  clear hkey hk1 hps sa sb
  go_enter Try.func19, Try.ntmps19
  go_wp2_with fail
  refine HKEY.out.mono ?_
  rintro e w1 ⟨v1, N1, rfl, hown1, hb1⟩
  obtain rfl := own_len hown1
  obtain ⟨A1, c1, rfl, sw1⟩ := SW.of_own hown1
  have b1 := below_then hb0 hb1
  clear hown1 hb0 hb1 cv1 cv2
  go_wp2_with fail
  refine (parts_any _ sw1 (by decide)).mono ?_
  rintro e w2 ⟨v2, ps2, rfl, hPT2, hm2, hb2⟩
  rw [show prt (([0, 1, 97, 0, 0, 1, 98, 0] : List UInt8).length + 1) [0, 1, 97, 0, 0, 1, 98, 0] = ([[97], [98]], 0) from aw_prt] at hm2 ⊢
  have hl2 := len_two hm2
  obtain ⟨A2, c2, rfl, hPS2⟩ := hPT2.form
  rw [hl2]
  have b2 := below_then b1 hb2
  have sw2 := sw1.then_ hb2
  go_wp2_with fail
  refine (key_none none 0 _).mono ?_
  rintro e w3 ⟨rfl, rfl⟩
  go_wp2_with fail
  have hps3 := PS.lit w2 22 w2.heap.size [⟨none, 0, 0, []⟩] #[.slice none 0 0] rfl rfl 1 rfl (by decide) (by
    intro p hp
    simp at hp
    subst hp
    exact BS.none_ _ _)
  refine (rtoken12 _ hps3 (by omega) (by
    intro k hk
    match k, hk with
    | 0, _ => show (0 : Nat) ≤ 140737488355328; omega)).mono ?_
  rintro e w4 ⟨rfl, hb4⟩
  rw [show keyE [⟨none, 0, 0, []⟩] = 0 from rfl, if_pos rfl, show keyB [⟨none, 0, 0, []⟩] = [] from rfl, aw_tok]
  have b24 := below_then (below_new (Below.refl w2.heap.size w2) _) hb4
  have sw4 := sw2.then_ b24
  have b4 := below_then b2 b24
  have cv3 := Joins.run_convert_bytes_const_at (P := Try.prog) (w4.alloc (.cells #[.int .u16 0] 31)) 22 5 #[.int .u8 120] 1 1 (w4.heap.size + 1) (by simp) Try.underlying22 Try.underlying5
  have sx : SW ((w4.alloc (.cells #[.int .u16 0] 31)).alloc (.cells #[.int .u8 120] 5 (1, 2))) (some ⟨w4.heap.size + 1, 0, none⟩) 1 1 [120] := SW.mark _ 5 _ [120] _ _ (by simp) rfl 1 rfl (by decide)
  have hus := US.lit1 w4 31 0 (by omega)
  have hvs := VS.lit1 ((w4.alloc (.cells #[.int .u16 0] 31)).alloc (.cells #[.int .u8 120] 5 (1, 2))) 54 (w4.heap.size + 1 + 1) 2 ⟨some ⟨w4.heap.size + 1, 0, none⟩, 1, 1, [120]⟩ (by simp) (by omega) sx
  go_wp2_with fail
  have b45 := below_new (below_new (below_new (Below.refl w4.heap.size w4) (.cells #[.int .u16 0] 31)) (.cells #[.int .u8 120] 5 (1, 2))) (.cells #[.int .i64 2, .slice (some ⟨w4.heap.size + 1, 0, none⟩) 1 1] 54)
  refine (pick_any (zs := [0]) (vs := [⟨2, ⟨some ⟨w4.heap.size + 1, 0, none⟩, 1, 1, [120]⟩⟩]) _ (hus.then_ (below_new (below_new (Below.refl _ _) _) _)) hvs (by omega) (by intro x hx; simp at hx; subst hx; show (1 : Nat) ≤ _; omega)).mono ?_
  rintro e w5 ⟨v5, ps5, rfl, hPO5, hm5, hb5⟩
  rw [(pick_x _ _).1]
  rw [(pick_x _ _).2] at hm5
  have hl5 := len_one hm5
  obtain ⟨A5, c5, rfl, hPS5⟩ := hPO5.pt.form
  rw [hl5]
  have b46 := below_then b45 hb5
  have sw5 := sw4.then_ b46
  have hs5 := str_now (show SW w5 A1 8 c1 [0, 1, 97, 0, 0, 1, 98, 0] from sw5)
  go_wp2_with fail
  go_ret
  exact ⟨rfl, below_then b4 b46⟩
end Go.Proofs.Ytapekipfkghdhaa
