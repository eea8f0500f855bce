/- The law's texts and same of chapter 12. Of at most 2^40 parts. -/
import Derived.Test.YtapekipfkghdhaaKE
namespace Go.Proofs.Ytapekipfkghdhaa
open Go.RowKit
theorem str_drawn {w : World} {B n c : Nat} {A : Option Addr} {l : List UInt8} (h : BS w B A n c l) : ∀ k, (convert 22 9 (.slice A n c)).run Try.prog (w.drewN k) = .ok (.string ⟨l.toArray⟩) (w.drewN k) :=
  fun k => run_str (h.drewN k) 22 9 5 Try.underlying22 Try.underlying5 Try.underlying9
theorem str_now {w : World} {B n c : Nat} {A : Option Addr} {l : List UInt8} (h : BS w B A n c l) : (convert 22 9 (.slice A n c)).run Try.prog w = .ok (.string ⟨l.toArray⟩) w :=
  run_str h 22 9 5 Try.underlying22 Try.underlying5 Try.underlying9
def strV (l : List UInt8) : Value := .string ⟨l.toArray⟩
/-- A slice of texts. -/
structure TS (w : World) (B : Nat) (A : Option Addr) (n c : Nat) (ls : List (List UInt8)) : Prop where
  len : ls.length = n
  cap : n ≤ c
  max : c ≤ maxLen
  at_ : 0 < n → ∃ g o, A = some ⟨g, o, none⟩ ∧ g < B ∧ ∀ i (h : i < ls.length), w.cell? ⟨g, o + i, none⟩ = some (strV ls[i])
theorem TS.below {w w' : World} {B n c : Nat} {A : Option Addr} {ls : List (List UInt8)} (h : TS w B A n c ls) (hb : Below B w w') : TS w' B A n c ls :=
  ⟨h.len, h.cap, h.max, fun hn => by
    obtain ⟨g, o, e, hg, hp⟩ := h.at_ hn
    exact ⟨g, o, e, hg, fun i hi => (hb.cell (p := ⟨g, o + i, none⟩) hg).trans (hp i hi)⟩⟩
/-- Texts in a row of the call's own. -/
def TX (w : World) (base : Nat) (v : Value) (ls : List (List UInt8)) : Prop := w.ownsRow base 9 1 v ls.length (ls.map strV)
theorem TX.form {w : World} {base : Nat} {v : Value} {ls : List (List UInt8)} (h : TX w base v ls) : ∃ A c, v = .slice A ls.length c ∧ TS w w.heap.size A ls.length c ls := by
  rcases h.2 with ⟨e, hn⟩ | ⟨g, cap, cur, e, hbg, hk, hnc, hcm, hsz, htk⟩
  · exact ⟨none, 0, by rw [e, hn], rfl, by omega, Nat.zero_le _, fun hx => absurd hx (by omega)⟩
  · refine ⟨_, _, e, rfl, hnc, hcm, fun hx => ⟨g, 0, rfl, (Array.getElem?_eq_some_iff.1 hk).1, fun i hi => ?_⟩⟩
    have hr : Row w g 9 cur := hk
    rw [Nat.zero_add, hr.cell]
    have h2 := congrArg (fun x => x[i]?) htk
    simp only [Nat.mul_one, List.getElem?_take, List.getElem?_map, Array.getElem?_toList] at h2
    rw [if_pos hi] at h2
    rw [h2, List.getElem?_eq_getElem hi]
    rfl
theorem info_text : (Try.prog.info? 9).map (fun i => (i.zero.map (·.cells.size), i.size, i.bytes)) = some (some 1, 1, 16) := by kernel_rfl
theorem TX.run_snoc {w : World} {base g : Nat} {v : Value} {ls : List (List UInt8)} (h : TX w base v ls) (l : List UInt8) (hg : w.cell? ⟨g, 0, none⟩ = some (strV l)) (hb : base ≤ w.heap.size) (hn : ls.length ≤ 1099511627776) (ty : TypeId) :
    ∃ v' w', (Builtin.append_ #[38, 38] ty #[v, .slice (some ⟨g, 0, none⟩) 1 1]).run Try.prog w = .ok v' w' ∧ TX w' base v' (ls ++ [l]) ∧ w.grownBy w' v.ownBlock := by
  obtain ⟨i, hi⟩ : ∃ i, Try.prog.info? 9 = some i := by
    have := info_text
    cases h : Try.prog.info? 9 with
    | none => rw [h] at this; cases this
    | some i => exact ⟨i, rfl⟩
  have hif := info_text
  rw [hi] at hif
  simp only [Option.map_some, Option.some.injEq, Prod.mk.injEq] at hif
  obtain ⟨hz, hsz, hby⟩ := hif
  obtain ⟨z, hz1, hz2⟩ := Option.map_eq_some_iff.1 hz
  obtain ⟨v', w', h1, hown, hgr, _⟩ := run_append_own (P := Try.prog) w base 38 ty 9 i z 1 16 Try.underlying38 hi hz1 hsz hby hz2 (by omega) v ls.length (ls.map strV) h ⟨g, 0, none⟩ 1 1 [strV l] rfl
    (fun j u hj => by
      match j, hj with
      | 0, hj => simp at hj; subst hj; rw [add_none]; exact hg)
    (by intro u hu; simp at hu; subst hu; rfl) (by unfold maxLen; omega) (by omega) hb
  exact ⟨v', w', h1, by unfold TX; simpa using hown, hgr⟩
set_option maxHeartbeats 800000 in
theorem texts_any {A : Option Addr} {n c : Nat} {ps : List Part} (w : World) (hps : PS w w.heap.size A n c ps) (hn : n ≤ 1099511627776) :
    Calls Try.prog 22 #[.slice A n c] w fun e w' => ∃ v, e = .returned v ∧ TX w' w.heap.size v (ps.map (·.l)) ∧ Below w.heap.size w w' := by
  have hpl := hps.len
  have hzm := Nat.le_trans hps.cap hps.max
  unfold maxLen at hzm
  go_enter Try.func22, Try.ntmps22
  go_wp2_with fail
  go_loopw [3, 4] (fun v i wr => ∃ (k : Nat), k ≤ n ∧ i = .int .i64 k ∧ TX wr w.heap.size v ((ps.take k).map (·.l)) ∧ Below w.heap.size w wr) (fun _ i _ => n - (intOf i).toNat)
  case atStart => exact ⟨0, Nat.zero_le _, rfl, World.ownsRow_nil _ _ _ _, Below.refl _ _⟩
  case round =>
    obtain ⟨k, hk, rfl, hTX, hb⟩ := hrel
    by_cases hlt : k < n
    · obtain ⟨g, o, rfl, hg, hp⟩ := hps.at_ (by omega)
      have hkp : k < ps.length := by omega
      have hck := (hp.below hb hg).cell k hkp
      have hbk := (hp.below hb hg).bs k hkp
      have htk : ps.take (k + 1) = ps.take k ++ [ps[k]] := List.take_succ_eq_append_getElem hkp
      obtain ⟨p, hpk⟩ : ∃ p, ps[k] = p := ⟨_, rfl⟩
      rw [hpk] at hck hbk htk
      obtain ⟨A1, n1, c1, l1⟩ := p
      simp only at hck hbk
      have HTK := Lib.hid (show (ps.take (k + 1)).map (·.l) = (ps.take k).map (·.l) ++ [l1] by rw [htk, List.map_append]; rfl)
      have hs := str_now hbk
      have hba : Below wr.heap.size wr (wr.alloc (.cells #[.string ⟨l1.toArray⟩] 9)) := below_new (Below.refl _ _) _
      have hta : TX (wr.alloc (.cells #[.string ⟨l1.toArray⟩] 9)) w.heap.size _ ((ps.take k).map (·.l)) := own_below hTX hba
      obtain ⟨vv, w8, hrun, hTX8, hg8⟩ := hta.run_snoc l1 (g := wr.heap.size) (by rw [(Row.new wr _ _).cell]; rfl) (below_then hb hba).size (by rw [List.length_map, List.length_take]; omega) 38
      have hob := own_blk' hTX
      clear htk hpk hta
      go_wp2_with (at_builtin; refine Lib.wpList_append_run _ rfl _ _ _ _ rfl _ _ rfl rfl _ _ hrun ?_)
      exact ⟨⟨k + 1, by omega, by go_num, by rw [HTK.out]; exact hTX8, (below_then hb hba).grown hg8 (below_then hb hba).size (fun g hg => hob g hg)⟩, by simp [intOf]; omega⟩
    · obtain rfl : k = n := by omega
      rw [List.take_of_length_le (by omega)] at hTX
      go_wp2_with fail
      go_ret
      exact ⟨_, rfl, hTX, hb⟩
set_option maxHeartbeats 800000 in
theorem same_any {A A2 : Option Addr} {n c n2 c2 : Nat} {la lb : List (List UInt8)} (w : World) (ha : TS w w.heap.size A n c la) (hb : TS w w.heap.size A2 n2 c2 lb) :
    Calls Try.prog 27 #[.slice A n c, .slice A2 n2 c2] w fun e w' => e = .returned (.bool (decide (la = lb))) ∧ ∃ q, w' = w.drewN q := by
  have hal := ha.len
  have hbl := hb.len
  have hzm := Nat.le_trans ha.cap ha.max
  have hvm := Nat.le_trans hb.cap hb.max
  unfold maxLen at hzm hvm
  obtain ⟨E, hE⟩ : ∃ E, decide (la = lb) = E := ⟨_, rfl⟩
  rw [hE]
  by_cases hnn : n = n2
  · subst hnn
    have HE := Lib.hid hE
    clear hE
    go_enter Try.func27, Try.ntmps27
    go_wp2_with fail
    go_loopw [5] (fun i wr => ∃ (k q : Nat), k ≤ n ∧ i = .int .i64 k ∧ wr = w.drewN q ∧ la.take k = lb.take k) (fun i _ => n - (intOf i).toNat)
    case atStart => exact ⟨0, 0, Nat.zero_le _, rfl, rfl, rfl⟩
    case round =>
      obtain ⟨k, q, hk, rfl, rfl, htt⟩ := hrel
      by_cases hlt : k < n
      · obtain ⟨g, o, rfl, _, hc1⟩ := ha.at_ (by omega)
        obtain ⟨g2, o2, rfl, _, hc2⟩ := hb.at_ (by omega)
        have ka : k < la.length := by omega
        have kb : k < lb.length := by omega
        have d1 := hc1 k ka
        have d2 := hc2 k kb
        have t1 : la.take (k + 1) = la.take k ++ [la[k]] := List.take_succ_eq_append_getElem ka
        have t2 : lb.take (k + 1) = lb.take k ++ [lb[k]] := List.take_succ_eq_append_getElem kb
        by_cases hxy : la[k] = lb[k]
        · rw [hxy] at t1 d1
          have HT := Lib.hid (show la.take (k + 1) = lb.take (k + 1) by rw [t1, t2, htt])
          unfold strV at d1 d2
          clear t1 t2 htt hxy hc1 hc2
          go_wp2_with fail
          go_quiet (fail)
          go_wp2_with fail
          exact ⟨⟨k + 1, q + nq, by omega, by go_num, rfl, HT.out⟩, by simp [intOf]; omega⟩
        · have hEf : E = false := by
            rw [← HE.out, decide_eq_false_iff_not]
            intro e
            subst e
            exact hxy rfl
          subst hEf
          obtain ⟨x, hx⟩ : ∃ x, la[k] = x := ⟨_, rfl⟩
          obtain ⟨y, hy⟩ : ∃ y, lb[k] = y := ⟨_, rfl⟩
          rw [hx] at d1 hxy
          rw [hy] at d2 hxy
          unfold strV at d1 d2
          clear t1 t2 htt hx hy hc1 hc2 HE
          have hxb : (x == y) = false := by simpa using hxy
          go_wp2_with fail
          go_quiet (fail)
          go_wp2_with fail
          go_ret
          exact ⟨rfl, q + nq, by simp [World.drewN, Nat.add_assoc]⟩
      · obtain rfl : k = n := by omega
        rw [List.take_of_length_le (by omega), List.take_of_length_le (by omega)] at htt
        have hEt : E = true := by rw [← HE.out, htt]; simp
        subst hEt
        clear HE htt
        go_wp2_with fail
        go_ret
        exact ⟨rfl, q, rfl⟩
  · have hEf : E = false := by
      rw [← hE, decide_eq_false_iff_not]
      intro e
      subst e
      omega
    subst hEf
    clear hE
    have hni : ((n : Int) != (n2 : Int)) = true := by simpa using (show ¬ (n : Int) = n2 by omega)
    go_enter Try.func27, Try.ntmps27
    go_wp2_with fail
    go_ret
    exact ⟨rfl, 0, rfl⟩
end Go.Proofs.Ytapekipfkghdhaa
