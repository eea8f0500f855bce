/- framesOf and Same: the walks. Of at most 2^36 frames. -/
import Derived.Test.YtiehhoonfneccaaSK
import Derived.Deep.RegionLaw
namespace Go.Proofs.Ytiehhoonfneccaa
open Go.RowKit
/-- Frames as the reference has them, in memory. -/
structure XM (w : World) (B : Nat) (A : Option Addr) (n c : Nat) (fs : List Fr) : Prop where
  len : fs.length = n
  cap : n ≤ c
  max : c ≤ maxLen
  at_ : 0 < n → ∃ g o, A = some ⟨g, o, none⟩ ∧ g < B ∧ ∀ j (h : j < fs.length), w.cell? ⟨g, o + j * 6, none⟩ = some (.int .u8 fs[j].V) ∧ w.cell? ⟨g, o + j * 6 + 1, none⟩ = some (.int .u8 fs[j].F) ∧ w.cell? ⟨g, o + j * 6 + 2, none⟩ = some (.int .i16 fs[j].S) ∧
    w.cell? ⟨g, o + j * 6 + 3, none⟩ = some (.int .u8 fs[j].O) ∧ w.cell? ⟨g, o + j * 6 + 4, none⟩ = some (.int .u32 fs[j].L) ∧ w.cell? ⟨g, o + j * 6 + 5, none⟩ = some (.string ⟨fs[j].body.toArray⟩)
theorem XM.then_ {w w' : World} {n c : Nat} {A : Option Addr} {fs : List Fr} (h : XM w w.heap.size A n c fs) (hb : Below w.heap.size w w') : XM w' w'.heap.size A n c fs :=
  ⟨h.len, h.cap, h.max, fun hn => by
    obtain ⟨g, o, e, hg, hp⟩ := h.at_ hn
    refine ⟨g, o, e, Nat.lt_of_lt_of_le hg hb.size, fun j hj => ?_⟩
    obtain ⟨h0, h1, h2, h3, h4, h5⟩ := hp j hj
    exact ⟨(hb.cell (p := ⟨g, _, none⟩) hg).trans h0, (hb.cell (p := ⟨g, _, none⟩) hg).trans h1, (hb.cell (p := ⟨g, _, none⟩) hg).trans h2, (hb.cell (p := ⟨g, _, none⟩) hg).trans h3, (hb.cell (p := ⟨g, _, none⟩) hg).trans h4, (hb.cell (p := ⟨g, _, none⟩) hg).trans h5⟩⟩
theorem fx_at : ∀ (fs : List Fr) (j : Nat) (h : j < fs.length) (i : Nat), i < 6 → (fs.flatMap fxCells)[j * 6 + i]? = (fxCells fs[j])[i]?
  | [], j, h, _, _ => absurd h (by simp)
  | f :: fs, 0, _, i, hi => by
    rw [List.flatMap_cons, Nat.zero_mul, Nat.zero_add, List.getElem?_append_left (by simpa [fxCells] using hi)]
    rfl
  | f :: fs, j + 1, h, i, hi => by
    have := fx_at fs j (by simpa using h) i hi
    rw [List.flatMap_cons, List.getElem?_append_right (by simp [fxCells]; omega)]
    rw [show (j + 1) * 6 + i - (fxCells f).length = j * 6 + i by simp [fxCells]; omega, this]
    rfl
theorem FX.form {w : World} {base : Nat} {v : Value} {fs : List Fr} (h : FX w base v fs) : ∃ A c, v = .slice A fs.length c ∧ XM w w.heap.size A fs.length c fs := by
  have hr : w.ownsRow base 64 6 v fs.length (fs.flatMap fxCells) := h
  rcases hr.2 with ⟨hv, hn⟩ | ⟨g, cap, cur, hv, _, hk, hc, hm, hs, ht⟩
  · exact ⟨none, 0, by rw [hv, hn], rfl, by omega, Nat.zero_le _, fun hx => absurd hx (by omega)⟩
  · subst hv
    refine ⟨_, _, rfl, rfl, hc, hm, fun hx => ⟨g, 0, rfl, (Array.getElem?_eq_some_iff.1 hk).1, fun j hj => ?_⟩⟩
    have hx : ∀ i, i < 6 → w.cell? ⟨g, 0 + j * 6 + i, none⟩ = (fxCells fs[j])[i]? := fun i hi => by
      rw [Nat.zero_add, ← fx_at fs j hj i hi]
      exact hr.cellAt (j * 6 + i) (by omega)
    exact ⟨hx 0 (by omega), hx 1 (by omega), hx 2 (by omega), hx 3 (by omega), hx 4 (by omega), hx 5 (by omega)⟩
theorem fx_s {w w' : World} {g i : Nat} {A : Option Addr} {n c : Nat} {l : List UInt8} (hb : Below w.heap.size w w') (hg : g < w.heap.size) (h5 : w.cell? ⟨g, i, none⟩ = some (.slice A n c)) (h6 : SW w A n c l) :
    w'.cell? ⟨g, i, none⟩ = some (.slice A n c) ∧ (convert 27 9 (.slice A n c)).run Try.prog w' = .ok (.string ⟨l.toArray⟩) w' :=
  ⟨(hb.cell (p := ⟨g, i, none⟩) hg).trans h5, str_now (h6.then_ hb)⟩
set_option maxRecDepth 20000 in
set_option maxHeartbeats 3200000 in
theorem framesOf_any {A : Option Addr} {n c : Nat} {fs : List Fr} (w : World) (hfm : FM w w.heap.size A n c fs) (hn : n ≤ 68719476736) :
    Calls Try.prog 29 #[.slice A n c] w fun e w' => ∃ v, e = .returned v ∧ FX w' w.heap.size v fs ∧ Below w.heap.size w w' := by
  have hfl := hfm.len
  have hzm := Nat.le_trans hfm.cap hfm.max
  unfold maxLen at hzm
  go_enter Try.func29, Try.ntmps29
  go_wp2_with fail
  go_loopw [3, 4] (fun v i wr => ∃ (k : Nat), k ≤ n ∧ i = .int .i64 k ∧ FX wr w.heap.size v (fs.take k) ∧ Below w.heap.size w wr) (fun _ i _ => n - (intOf i).toNat)
  case atStart => exact ⟨0, Nat.zero_le _, rfl, FX.nil _ _, Below.refl _ _⟩
  case round =>
    obtain ⟨k, hk, rfl, hFX, hb⟩ := hrel
    by_cases hlt : k < n
    · obtain ⟨g, o, rfl, hg, hp⟩ := (hfm.then_ hb).at_ (by omega)
      have hkp : k < fs.length := by omega
      have htk : fs.take (k + 1) = fs.take k ++ [fs[k]] := List.take_succ_eq_append_getElem hkp
      have htl : (fs.take k).length ≤ 1099511627776 := by rw [List.length_take]; omega
      obtain ⟨c0, c1, c2, c3, c4, A1, m1, c5, hbs⟩ := hp k hkp
      obtain ⟨f, hfk⟩ : ∃ f, fs[k] = f := ⟨_, rfl⟩
      rw [hfk] at c0 c1 c2 c3 c4 c5 hbs htk
      obtain ⟨V, F, S, O, L, bd⟩ := f
      simp only at c0 c1 c2 c3 c4 c5 hbs
      obtain ⟨nb, hnb⟩ : ∃ nb, bd.length = nb := ⟨_, rfl⟩
      rw [hnb] at c5 hbs
      have s0 := str_now (BS.drew hbs)
      have HTK := Lib.hid htk
      have HBS := Lib.hid hbs
      have hob := fun k hk => (hFX.lt k hk).1
      clear htk hfk hbs hnb hp
      go_wp2_with fail
      go_region_law (first | (refine step_append_fx rfl (.tmp 11) (.tmp 25) rfl (by simp [Act.eval]) w3.heap.size (by simp [Act.eval]) (own_below hFX (below_new hB3 _)) ⟨V, F, S, O, L, bd⟩ (Row.new w3 _ _) (below_then hb (below_new hB3 _)).size htl ?_; intro v' w4 hF4 hg4) | (go_simp; go_at_call 38; refine (headOf_any V F S O L _).mono ?_; rintro e w3 ⟨rfl, hb3⟩; have hB3 := below_then (w := wr.drew) (Below.refl wr.heap.size wr).drew hb3; obtain ⟨t5, t6⟩ := fx_s hB3 hg c5 HBS.out))
      all_goals go_wp2_with fail
      all_goals exact ⟨⟨k + 1, by omega, by go_num, by rw [HTK.out]; exact hF4, (below_then hb (below_new hB3 _)).grown hg4 (below_then hb (below_new hB3 _)).size hob⟩, by simp [intOf]; omega⟩
    · obtain rfl : k = n := by omega
      rw [List.take_of_length_le (by omega)] at hFX
      go_wp2_with fail
      go_ret
      exact ⟨_, rfl, hFX, hb⟩
set_option maxHeartbeats 800000 in
theorem same_fx {A A2 : Option Addr} {n c n2 c2 : Nat} {fs : List Fr} (w : World) (ha : XM w w.heap.size A n c fs) (hb : XM w w.heap.size A2 n2 c2 fs) :
    Calls Try.prog 28 #[.slice A n c, .slice A2 n2 c2] w fun e w' => e = .returned (.bool true) ∧ ∃ q, w' = w.drewN q := by
  have hal := ha.len
  have hbl := hb.len
  have hnn : n2 = n := by omega
  subst hnn
  have hzm := Nat.le_trans ha.cap ha.max
  unfold maxLen at hzm
  clear hbl
  go_enter Try.func28, Try.ntmps28
  go_wp2_with fail
  go_loopw [5] (fun i wr => ∃ (k q : Nat), k ≤ n2 ∧ i = .int .i64 k ∧ wr = w.drewN q) (fun i _ => n2 - (intOf i).toNat)
  case atStart => exact ⟨0, 0, Nat.zero_le _, rfl, rfl⟩
  case round =>
    obtain ⟨k, q, hk, rfl, rfl⟩ := hrel
    by_cases hlt : k < n2
    · obtain ⟨g, o, rfl, _, hc1⟩ := ha.at_ (by omega)
      obtain ⟨g2, o2, rfl, _, hc2⟩ := hb.at_ (by omega)
      have ka : k < fs.length := by omega
      obtain ⟨d0, d1, d2, d3, d4, d5⟩ := hc1 k ka
      obtain ⟨e0, e1, e2, e3, e4, e5⟩ := hc2 k ka
      obtain ⟨f, hf⟩ : ∃ f, fs[k] = f := ⟨_, rfl⟩
      rw [hf] at d0 d1 d2 d3 d4 d5 e0 e1 e2 e3 e4 e5
      obtain ⟨V, F, S, O, L, bd⟩ := f
      simp only at d0 d1 d2 d3 d4 d5 e0 e1 e2 e3 e4 e5
      clear hc1 hc2 hf
      go_wp2_with fail
      go_quiet (fail)
      go_wp2_with fail
      exact ⟨⟨k + 1, q + nq, by omega, by go_num, by simp [World.drewN]⟩, by simp [intOf]; omega⟩
    · obtain rfl : k = n2 := by omega
      go_wp2_with fail
      go_ret
      exact ⟨rfl, q, rfl⟩
end Go.Proofs.Ytiehhoonfneccaa
