/- The executor: that each operation is followed rightly. No condition. -/
import Derived.Test.YtcjiieoggpdphaaGreatDoorExA
import Derived.Lib.ConvBytes
import Derived.Laws.MakeOwn
import Derived.Deep.Upon
import Derived.Lib.AppendZerosOnto
import Derived.MapKept
import Derived.Laws.IdiomCopy
import Derived.Laws.RangeString
namespace Go.Exe
open Go
section
variable {P : Program} {K : CallF} {o : Oper} {E : Env}

theorem agg_run (hE : EnvOk P E) {t : Nat} {b : Bool} (h : E.agg t = some b) (w : World) : (isAgg t).run P w = .ok b w := by
  unfold Env.agg at h
  split at h
  · rename_i d hd
    cases h
    have hu := hE.under hd
    unfold isAgg
    rw [Sem.run_bind, run_underlying hu w]
    cases d <;> rfl
  · cases h

theorem load_ok (hE : EnvOk P E) {t : Nat} {x v : SV} {C : Ctx} {ρ : Ren} {s : ST} {w : World} (hok : Ok C ρ s w) (h : loadS E t x s = some v) {u : Value} (hx : VR ρ x u) :
    ∃ y, (Instr.loadAt t u).run P w = .ok y w ∧ VR ρ v y := by
  unfold loadS at h
  cases ha : E.agg t with
  | none => rw [ha] at h; cases h
  | some b =>
  cases hs : E.size t with
  | none => rw [ha, hs] at h; cases b <;> cases h
  | some n =>
  obtain ⟨i, hi, rfl⟩ := hE.size hs
  have hag := agg_run hE ha w
  cases b with
  | true =>
    rw [ha, hs] at h
    dsimp only at h
    split at h
    · rename_i p hp
      split at h
      · rename_i l hl
        split at h
        · rename_i r hr
          cases h
          rw [asPtr_iff.1 hp, VR.ptr_iff] at hx
          obtain ⟨q, hq, rfl⟩ := hx
          obtain ⟨cs, h1, h2, h3, h4⟩ := hok.range hq hl hr
          refine ⟨.agg ⟨cs⟩, ?_, VR.agg_iff.2 ⟨cs, rfl, h3, h4⟩⟩
          have hl := run_loadCells_list (P := P) w ⟨q.blk, q.off + p.2, none⟩ cs (fun j v hv => by rw [Addr.add_mid]; exact h2 j v hv)
          rw [h1] at hl
          simp [Instr.loadAt, Instr.sureAddr, loadVar, hag, run_sizeOf' hi, hl]
        · cases h
      · cases h
    · cases h
  | false =>
    rw [ha, hs] at h
    dsimp only at h
    split at h
    · rename_i p hp
      split at h
      · rename_i l hl
        rw [asPtr_iff.1 hp, VR.ptr_iff] at hx
        obtain ⟨q, hq, rfl⟩ := hx
        obtain ⟨y, h1, h2, _⟩ := hok.cellAt hq hl h
        refine ⟨y, ?_, h2⟩
        simp [Instr.loadAt, Instr.sureAddr, loadVar, hag, h1]
      · cases h
    · cases h

theorem sound_load {t : Nat} {x : Operand} (hE : EnvOk P E) (ho : o.op = .load t x) : Sound P K o (opB E o) := by
  unfold opB
  rw [ho]
  refine sound_read1 (x := x) (by rw [ho]; rfl) fun C ρ s w a u v h r hok => ?_
  obtain ⟨y, h1, h2⟩ := load_ok hE hok h r
  exact ⟨y, by simp [execOp, ho, h1], h2⟩

theorem setRow_eq (w : World) (g : Nat) (old cs : Array Value) (t : TypeId) (hg : w.heap[g]? = some (.cells old t (0, 0))) :
    w.setRow g cs = { w with heap := w.heap.setIfInBounds g (.cells cs t (0, 0)) } := by
  have hlt : g < w.heap.size := (Array.getElem?_eq_some_iff.1 hg).1
  have hv : w.heap[g] = .cells old t (0, 0) := (Array.getElem?_eq_some_iff.1 hg).2
  unfold World.setRow
  congr 1
  apply Array.ext_getElem?
  intro k
  rw [Array.getElem?_modify, Array.getElem?_setIfInBounds]
  by_cases hk : g = k
  · subst hk; simp [hlt, hv]
  · simp [hk]

theorem put_ok {s s' : ST} {j : Nat} {x : SO} (h : s.put j x = some s') : s' = ⟨s.heap.set j x, s.next, s.lo, s.it⟩ ∧ (s.lo ≤ j ∨ s.it = j) := by
  unfold ST.put at h
  split at h
  · rename_i hb
    cases h
    refine ⟨rfl, ?_⟩
    rcases Bool.or_eq_true _ _ ▸ hb with hb | hb
    · exact .inl (Nat.le_of_ble_eq_true hb)
    · exact .inr (Nat.eq_of_beq_eq_true hb)
  · cases h

theorem Ext.put {C : Ctx} {ρ : Ren} {s s' : ST} {w : World} {j : Nat} {x : SO} (hok : Ok C ρ s w) (h : s.put j x = some s') (hj : j < 32768) : Ext s s' ρ ρ := by
  obtain ⟨rfl, hb⟩ := put_ok h
  refine ⟨Ren.le_refl _, fun _ _ => rfl, Nat.le_refl _, rfl, rfl, fun hl i hi hit => ?_⟩
  have := hok.bound
  exact H3.get_set_ne _ _ hj (by omega) (by rcases hb with hb | hb <;> omega)

theorem live_cells {s : ST} {j : Nat} {l : Nat × List SV} (h : s.cellsT j = some l) : (s.heap.get j).live = true := by
  rw [asCellsT_iff.1 h]; rfl

/-- some cells of a block are written -/
theorem Ok.putCells {C : Ctx} {ρ : Ren} {s s' : ST} {w : World} (h : Ok C ρ s w) {j o t : Nat} {p : Loc} {l r vs : List SV} {us : List Value} (hp : ρ j = some p) (hl : s.cellsT j = some (t, l))
    (hr : putFrom l o vs = some r) (hput : s.put j (.cells t r) = some s') (hv : VRL ρ vs us) (h1 : ∀ u ∈ us, u.oneCell' = true) :
    ∃ w', (storeCells ⟨p.blk, p.off + o, none⟩ us).run P w = .ok () w' ∧ Ok C ρ s' w' ∧ Ext s s' ρ ρ := by
  obtain ⟨a, ha, h2, h3, h4, h5, h6⟩ := h.cellsT hp hl
  dsimp only at ha h3 h4 h5 h6
  obtain ⟨hle, rfl⟩ := putFrom_eq _ _ _ _ hr
  have hlen := hv.length
  have hj : j < 32768 := Nat.lt_of_lt_of_le (h.dom j p hp) h.bound
  have hext := Ext.put h hput hj
  obtain ⟨rfl, _⟩ := put_ok hput
  have hrun := run_storeCells_at P p.blk (p.off + o) (t / 2) us 0 a w ha (by omega) h1
  refine ⟨_, hrun, ?_, hext⟩
  rw [setRow_eq w _ a _ (t / 2) ha]
  refine h.write hp (live_cells hl) ?_ rfl
  have e : (List.drop p.off (a.toList.take (p.off + o + 0) ++ us ++ a.toList.drop (p.off + o + 0 + us.length))).take l.length =
      ((a.toList.drop p.off).take l.length).take o ++ us ++ ((a.toList.drop p.off).take l.length).drop (o + us.length) := by
    have hs : a.toList.length = a.size := by simp
    refine splice_ext (by simp; omega) (by simp; omega) fun k => ?_
    rw [List.getElem?_take]
    by_cases hk : k < l.length
    · rw [if_pos hk, List.getElem?_drop]
      have hxs : ((a.toList.drop p.off).take l.length)[k]? = a.toList[p.off + k]? := by rw [List.getElem?_take, if_pos hk, List.getElem?_drop]
      have hT : (a.toList.take (p.off + o + 0)).length = p.off + o := by simp; omega
      by_cases c1 : k < o
      · rw [if_neg (by omega), hxs, List.append_assoc, List.getElem?_append_left (by omega), List.getElem?_take, if_pos (by omega)]
      · by_cases c2 : k < o + us.length
        · rw [if_pos (by omega), List.append_assoc, List.getElem?_append_right (by omega), hT, List.getElem?_append_left (by omega)]
          congr 1; omega
        · rw [if_neg (by omega), hxs, List.append_assoc, List.getElem?_append_right (by omega), hT, List.getElem?_append_right (by omega), List.getElem?_drop]
          congr 1; omega
    · rw [if_neg hk, if_neg (by omega), List.getElem?_take, if_neg hk]
  have hrl : (l.take o ++ vs ++ l.drop (o + vs.length)).length = l.length := by simp; omega
  refine ⟨_, rfl, ?_, ?_, ?_, ?_⟩
  · simp; omega
  · rw [hrl]; exact h3
  · rw [hrl]
    simp only []
    rw [e]
    exact h4.splice hv o
  · rw [hrl]
    simp only []
    rw [e]
    refine ⟨mem_splice h5 h1, fun ht => ?_⟩
    obtain ⟨q1, q2⟩ := h6 ht
    refine ⟨q1, ?_⟩
    simp
    omega

theorem sound_eff {f : CallF → List SV → ST → Option (SV × ST)}
    (h : ∀ (C : Ctx) (ρ : Ren) (s s' : ST) (w : World) (a : Act) (l : List SV) (v : SV), f K l s = some (v, s') → VRL ρ l (o.op.operands.toList.map a.eval) → Ok C ρ s w →
      ∃ ρ' v' w', ((execOp a.eval o).run P w = .ok (.value v') w' ∨ ((execOp a.eval o).run P w = .ok .skip w' ∧ v' = undef)) ∧ Ext s s' ρ ρ' ∧ VR ρ' v v' ∧ Ok C ρ' s' w') : Sound P K o (.eff f) := by
  intro C ρ s s' w a xs v hxs hok happ Kp Q hk
  obtain ⟨ρ', v', w', h1, h2, h3, h4⟩ := h C ρ s s' w a xs v (app_eff happ) hxs hok
  rcases h1 with h1 | ⟨h1, rfl⟩
  · exact wp_value h1 (hk ρ' v' w' h2 h3 h4)
  · exact wp_skip' h1 (hk ρ' undef w' h2 h3 h4)

theorem skip1_inv {x : Option ST} {v : SV} {s' : ST} (h : skip1 x = some (v, s')) : x = some s' ∧ v = .tup [] := by
  unfold skip1 at h
  split at h
  · cases h; exact ⟨rfl, rfl⟩
  · cases h

theorem sound_store {t : Nat} {x y : Operand} (hE : EnvOk P E) (ho : o.op = .store t x y) : Sound P K o (opB E o) := by
  unfold opB
  rw [ho]
  refine sound_eff fun C ρ s s' w a l v h hx hok => ?_
  split at h
  · rename_i sa sv
    obtain ⟨h2, rfl⟩ := skip1_inv h
    clear h
    have h := h2
    rw [ho] at hx
    obtain ⟨va, vv, e, ra, rv⟩ := hx.two
    simp [Op.operands] at e
    obtain ⟨rfl, rfl⟩ := e
    unfold storeS at h
    cases hs : E.size t with
    | none => rw [hs] at h; cases h
    | some n =>
    rw [hs] at h
    obtain ⟨inf, hi, rfl⟩ := hE.size hs
    dsimp only at h
    split at h
    · rename_i p hp
      rw [asPtr_iff.1 hp, VR.ptr_iff] at ra
      obtain ⟨q, hq, ea⟩ := ra
      split at h
      · rename_i hb
        simp only [Bool.and_eq_true] at hb
        obtain ⟨hokc, hsz⟩ := hb
        have hsz := Nat.eq_of_beq_eq_true hsz
        obtain ⟨hvc, hv1⟩ := okCell_cells rv hokc
        split at h
        · rename_i l hl
          split at h
          · rename_i r hr
            obtain ⟨w', h1, h2, h3⟩ := hok.putCells (P := P) hq hl hr h hvc hv1
            refine ⟨ρ, undef, w', .inr ⟨?_, rfl⟩, h3, VR.undef ρ, h2⟩
            have hsz' : (a.eval y).cells.size = inf.size := by rw [← hsz, ← hvc.length]; simp
            simp [execOp, ho, ea, Instr.storeAt, Instr.sureAddr, storeVar, run_sizeOf' hi, hsz', h1]
          · cases h
        · cases h
      · cases h
    · cases h
  · cases h

/-! ### New blocks -/
theorem new_ok {s s' : ST} {v v' : SV} {x : SO} (h : s.new v x = some (v', s')) : s.next < 32768 ∧ v' = v ∧ s' = ⟨s.heap.set s.next x, Nat.succ s.next, s.lo, s.it⟩ := by
  unfold ST.new at h
  split at h
  · rename_i hb
    cases h
    exact ⟨by simpa [Nat.blt_eq] using hb, rfl, rfl⟩
  · cases h

theorem Ext.alloc {C : Ctx} {ρ : Ren} {s : ST} {w : World} (hok : Ok C ρ s w) (hn : s.next < 32768) (p : Loc) (x : SO) : Ext s ⟨s.heap.set s.next x, Nat.succ s.next, s.lo, s.it⟩ ρ (ρ.up s.next p) :=
  ⟨hok.up p, fun j hj => Ren.up_ne _ _ (by omega), Nat.le_succ _, rfl, rfl, fun hl j hj _ => H3.get_set_ne _ _ hn (by omega) (by omega)⟩

/-- a new block of cells -/
theorem Ok.newCells {C : Ctx} {ρ : Ren} {s s' : ST} {w : World} (hok : Ok C ρ s w) {v v' : SV} {l : List SV} {t : TypeId} (h : s.new v (.cells (Nat.mul 2 t) l) = some (v', s')) {xs : Array Value}
    (hle : l.length ≤ xs.size) (hl : VRL ρ l (xs.toList.take l.length)) (h1 : ∀ x ∈ xs.toList.take l.length, x.oneCell' = true) :
    let p : Loc := ⟨w.heap.size, 0, xs.size⟩
    v' = v ∧ Ok C (ρ.up s.next p) s' (w.alloc (.cells xs t)) ∧ Ext s s' ρ (ρ.up s.next p) := by
  obtain ⟨hn, rfl, rfl⟩ := new_ok h
  refine ⟨rfl, hok.alloc hn rfl ?_ rfl, Ext.alloc hok hn _ _⟩
  have hdiv : Nat.mul 2 t / 2 = t := Nat.mul_div_cancel_left t (by omega)
  refine ⟨xs, by rw [hdiv], Nat.le_refl _, by simpa using hle, by simpa using hl.mono (hok.up _), by simpa using h1, fun hodd => ?_⟩
  have h2 : Nat.mul 2 t % 2 = 0 := Nat.mul_mod_right 2 t
  exact absurd (h2.symm.trans hodd) (by decide)

/-- an operation that makes a block, and does nothing else -/
def MkSound (P : Program) (o : Oper) (f : List SV → Option (Fun Nat SV × SO)) : Prop :=
  ∀ (ρ : Ren) (w : World) (a : Act) (xs : List SV) (g : Fun Nat SV) (x : SO), VRL ρ xs (o.op.operands.toList.map a.eval) → f xs = some (g, x) →
    ∃ v' ob st, (execOp a.eval o).run P w = .ok (.value v') (w.alloc ob) ∧ ∀ ρ' num, ρ.le ρ' → ρ' num = some ⟨w.heap.size, 0, st⟩ → VR ρ' (g.f num) v' ∧ ObjR ρ' ⟨w.heap.size, 0, st⟩ x ob ∧ x.isL = false

theorem app_mk {f : List SV → Option (Fun Nat SV × SO)} {xs : List SV} {s s' : ST} {v : SV} (h : (OpB.mk f).app K xs s = some (v, s')) : ∃ g x, f xs = some (g, x) ∧ s.new (g.f s.next) x = some (v, s') := by
  have h' : (match f xs with | some (g, x) => s.new (g.f s.next) x | none => none) = some (v, s') := h
  split at h'
  · rename_i g x hf; exact ⟨g, x, hf, h'⟩
  · cases h'

theorem sound_mk {f : List SV → Option (Fun Nat SV × SO)} (h : MkSound P o f) : Sound P K o (.mk f) := by
  intro C ρ s s' w a xs v hxs hok happ Kp Q hk
  obtain ⟨g, x, hf, hnew⟩ := app_mk happ
  obtain ⟨hn, rfl, rfl⟩ := new_ok hnew
  obtain ⟨v', ob, st, h1, h2⟩ := h ρ w a xs g x hxs hf
  obtain ⟨h3, h4, h5⟩ := h2 (ρ.up s.next ⟨w.heap.size, 0, st⟩) s.next (hok.up _) (Ren.up_same _ _ _)
  exact wp_value h1 (hk _ v' _ (Ext.alloc hok hn _ _) h3 (hok.alloc hn rfl h4 h5))

/-- cells of a new row -/
theorem objR_new {ρ ρ' : Ren} (hle : ρ.le ρ') {l : List SV} {xs : Array Value} {t b : Nat} (hl : VRL ρ l xs.toList) (h1 : ∀ x ∈ xs.toList, x.oneCell' = true) : ObjR ρ' ⟨b, 0, xs.size⟩ (.cells (Nat.add (Nat.mul 2 t) 1) l) (.cells xs t) := by
  have hlen := hl.length
  have hdiv : Nat.add (Nat.mul 2 t) 1 / 2 = t := by
    show (2 * t + 1) / 2 = t
    omega
  refine ⟨xs, by rw [hdiv], Nat.le_refl _, ?_, ?_, ?_, fun _ => ⟨rfl, by simp at hlen; omega⟩⟩
  · show 0 + l.length ≤ xs.size
    simp at hlen
    omega
  · show VRL ρ' l ((xs.toList.drop 0).take l.length)
    rw [← hlen, List.drop_zero, List.take_length]
    exact hl.mono hle
  · show ∀ v ∈ (xs.toList.drop 0).take l.length, v.oneCell' = true
    rw [← hlen, List.drop_zero, List.take_length]
    exact h1

theorem mk_alloc {t : Nat} {z : List SV} (hE : EnvOk P E) (ho : o.op = .alloc t) (hz : E.zeroC t = some z) : MkSound P o fun _ => some (⟨fun n => .ptr n 0⟩, .cells (Nat.add (Nat.mul 2 t) 1) z) := by
  intro ρ w a xs g x hx h
  cases h
  obtain ⟨i, zv, hi, hzv, hc⟩ := zero_cells hE hz
  obtain ⟨hc1, hc2⟩ := hc ρ
  refine ⟨.pointer (some ⟨w.heap.size, 0, none⟩), .cells zv.cells t, zv.cells.size, ?_, fun ρ' num hle hn => ⟨VR.ptr_iff.2 ⟨_, hn, rfl⟩, objR_new hle hc1 hc2, rfl⟩⟩
  simp [execOp, ho, Instr.alloc, run_zeroValue' hi hzv, newVar, newRow]

theorem sound_alloc {t : Nat} (hE : EnvOk P E) (ho : o.op = .alloc t) : Sound P K o (opB E o) := by
  unfold opB
  rw [ho]
  dsimp only
  cases hz : E.zeroC t with
  | none => exact sound_no
  | some z => exact sound_mk (mk_alloc hE ho hz)

theorem mk_box {t : Nat} {x : Operand} (ho : o.op = .box t x) : MkSound P o fun l => match l with
    | [x] => match x.okCell with
      | true => some (⟨fun n => .ptr n 0⟩, .cells (Nat.add (Nat.mul 2 t) 1) x.cells)
      | false => none
    | _ => none := by
  intro ρ w a xs g sx hx h
  dsimp only at h
  split at h
  · rename_i sx
    rw [ho] at hx
    obtain ⟨vx, e, rx⟩ := hx.one
    simp [Op.operands] at e
    subst e
    split at h
    · rename_i hokc
      cases h
      obtain ⟨hc1, hc2⟩ := okCell_cells rx hokc
      refine ⟨.pointer (some ⟨w.heap.size, 0, none⟩), .cells (a.eval x).cells t, (a.eval x).cells.size, ?_, fun ρ' num hle hn => ⟨VR.ptr_iff.2 ⟨_, hn, rfl⟩, objR_new hle hc1 hc2, rfl⟩⟩
      simp [execOp, ho, Instr.box, newVar, newRow]
    · cases h
  · cases h

theorem sound_box {t : Nat} {x : Operand} (ho : o.op = .box t x) : Sound P K o (opB E o) := by
  unfold opB
  rw [ho]
  exact sound_mk (mk_box ho)

theorem elem_ok (hE : EnvOk P E) {t n : Nat} {z : List SV} (h : E.elem t = some (n, z)) : ∃ i v, P.info? t = some i ∧ i.zero = some v ∧ i.size = n ∧ z.length = n ∧ i.bytes ≤ 1048576 ∧
    ∀ ρ, VRL ρ z v.cells.toList ∧ ∀ u ∈ v.cells.toList, u.oneCell' = true := by
  unfold Env.elem at h
  split at h
  · rename_i i hi
    split at h
    · rename_i z' hz
      split at h
      · rename_i hb
        cases h
        simp only [Bool.and_eq_true] at hb
        obtain ⟨i', v, h1, h2, h3⟩ := zero_cells hE hz
        have := hE.ti _ _ hi
        rw [h1] at this
        cases this
        have e : ∀ l : List SV, lenV l = l.length := by
          intro l
          induction l with
          | nil => rfl
          | cons x l ih => show Nat.succ (lenV l) = _; rw [ih]; rfl
        exact ⟨i, v, h1, h2, rfl, by rw [← e]; exact Nat.eq_of_beq_eq_true hb.1, Nat.le_of_ble_eq_true hb.2, h3⟩
      · cases h
    · cases h
  · cases h

theorem repL_length (z : List SV) : ∀ n, (repL z n).length = n * z.length
  | 0 => by simp [repL]
  | n + 1 => by simp [repL, repL_length z n, Nat.succ_mul]; omega

def repV (z : List Value) : Nat → List Value
  | 0 => []
  | n + 1 => z ++ repV z n
theorem VRL.rep {ρ : Ren} {z : List SV} {zs : List Value} (h : VRL ρ z zs) : ∀ n, VRL ρ (repL z n) (repV zs n)
  | 0 => .nil
  | n + 1 => h.append (h.rep n)
theorem repV_one {zs : List Value} (h : ∀ x ∈ zs, x.oneCell' = true) : ∀ n, ∀ x ∈ repV zs n, x.oneCell' = true
  | 0, x, hx => by simp [repV] at hx
  | n + 1, x, hx => by
    rcases List.mem_append.1 hx with hx | hx
    · exact h x hx
    · exact repV_one h n x hx
theorem repV_length (zs : List Value) : ∀ n, (repV zs n).length = n * zs.length
  | 0 => by simp [repV]
  | n + 1 => by simp [repV, repV_length zs n, Nat.succ_mul]; omega
theorem repV_get {zs : List Value} (hz : 0 < zs.length) : ∀ (n i : Nat), i < n * zs.length → (repV zs n)[i]? = zs[i % zs.length]?
  | 0, i, h => by simp at h
  | n + 1, i, h => by
    unfold repV
    by_cases hi : i < zs.length
    · rw [List.getElem?_append_left hi, Nat.mod_eq_of_lt hi]
    · have h2 : (n + 1) * zs.length = n * zs.length + zs.length := Nat.succ_mul _ _
      rw [List.getElem?_append_right (by omega), repV_get hz n _ (by omega)]
      congr 1
      exact (Nat.mod_eq_sub_mod (by omega)).symm
/-- the model's own way to lay so many noughts -/
theorem range_zeros (z : Array Value) (n : Nat) (hz : 0 < z.size) : ((Array.range (n * z.size)).map (fun i => z[i % z.size]!)) = ⟨repV z.toList n⟩ := by
  apply Array.ext'
  apply List.ext_getElem?
  intro i
  by_cases hi : i < n * z.size
  · rw [repV_get (by simpa using hz) n i (by simpa using hi)]
    have : i % z.size < z.size := Nat.mod_lt _ hz
    simp [hi, this]
  · rw [List.getElem?_eq_none (by simp; omega), List.getElem?_eq_none (by rw [repV_length]; simpa using hi)]

theorem lenL_eq (l : List Nat) : lenL l = l.length := by
  induction l with
  | nil => rfl
  | cons x l ih => show Nat.succ (lenL l) = _; rw [ih]; rfl

/-- a row of bytes that is read alone -/
theorem ro_ok {C : Ctx} {ρ : Ren} {s s' : ST} {w : World} (hok : Ok C ρ s w) {b : List Nat} (hb : ∀ x ∈ b, x < 256) {v : SV} (h : roNew b s = some (v, s')) {e : Nat} :
    ∃ w', Lib.bytesWorld w e (strOf b) = w' ∧ Ext s s' ρ (ρ.up s.next ⟨w.heap.size, 0, (Lib.bytesCells w e (strOf b)).size⟩) ∧
      VR (ρ.up s.next ⟨w.heap.size, 0, (Lib.bytesCells w e (strOf b)).size⟩) v (.slice (some ⟨w.heap.size, 0, none⟩) (strOf b).size (grownCap w (strOf b).size 0 e)) ∧
      Ok C (ρ.up s.next ⟨w.heap.size, 0, (Lib.bytesCells w e (strOf b)).size⟩) s' w' := by
  unfold roNew at h
  obtain ⟨hn, rfl, rfl⟩ := new_ok h
  have hge := grownCap_ge w (strOf b).size 0 e
  have hsz : (Lib.bytesCells w e (strOf b)).size = grownCap w (strOf b).size 0 e := by
    have : (strOf b).data.size = (strOf b).size := rfl
    simp only [Lib.bytesCells, Array.size_append, Array.size_map, Array.size_replicate, this]
    omega
  have hll : lenL b = (strOf b).size := by rw [lenL_eq, strOf_size]
  refine ⟨_, rfl, Ext.alloc hok hn _ _, ?_, ?_⟩
  · rw [hll]
    refine VR.sx_iff.2 ⟨_, _, _, Ren.up_same _ _ _, rfl, .inl ⟨rfl, hge, ?_⟩⟩
    simp [hsz]
  · have hd : Ok C ρ s w.drew := hok.drew
    have hsz1 : w.drew.heap.size = w.heap.size := rfl
    refine hok.adopt hn (o := .cells (Lib.bytesCells w e (strOf b)) e ((Lib.bytesCells w e (strOf b)).size, (Lib.bytesCells w e (strOf b)).size + 1)) rfl rfl rfl ?_ ?_ ?_ ?_ ?_ rfl
    · intro k o hne hk
      have hlt : k < w.heap.size := by
        rcases Nat.lt_or_ge k w.heap.size with h' | h'
        · exact h'
        · simp [Array.getElem?_eq_none h'] at hk
      rw [Lib.bytesWorld_at_old w e _ k hlt]
      exact hk
    · exact Lib.bytesWorld_at_new w e _
    · intro i q hq hi
      have := hok.blk_lt hq hi
      show q.blk ≠ w.heap.size
      omega
    · intro k o' hk
      have hk' := (hok.far k o' hk).1
      have : k < w.heap.size := by
        rcases Nat.lt_or_ge k w.heap.size with h' | h'
        · exact h'
        · simp [Array.getElem?_eq_none h'] at hk'
      show k ≠ w.heap.size
      omega
    · have hbl : (b.map fun c => SV.int .u8 (.ofNat c)).length = (strOf b).size := by rw [List.length_map, strOf_size]
      have hrow : (Lib.bytesCells w e (strOf b)).toList.take (strOf b).size = b.map fun c => Value.int .u8 ((c : Nat) : Int) := by
        simp only [Lib.bytesCells, Array.toList_append, Array.toList_map]
        have h1 : (List.map (fun b => Value.int .u8 ((UInt8.toNat b : Nat) : Int)) (strOf b).data.toList).length = (strOf b).size := by simp
        rw [← h1, List.take_left]
        simp only [strOf, List.map_map]
        apply List.map_congr_left
        intro c hc
        have := hb c hc
        simp
        omega
      refine ⟨_, _, _, rfl, Nat.le_refl _, ?_, ?_, ?_⟩
      · rw [hbl, hsz]; simpa using hge
      · rw [hbl, List.drop_zero, hrow]
        generalize ρ.up s.next _ = σ
        clear h hbl hrow hsz hge hll
        induction b with
        | nil => exact .nil
        | cons x b ih => exact .cons (VR.int_iff.2 rfl) (ih fun y hy => hb y (by simp [hy]))
      · rw [hbl, List.drop_zero, hrow]
        intro v hv
        obtain ⟨c, _, rfl⟩ := List.mem_map.1 hv
        rfl

theorem sound_convert {src dst : Nat} {x : Operand} (hE : EnvOk P E) (ho : o.op = .convert src dst x) : Sound P K o (opB E o) := by
  unfold opB
  rw [ho]
  dsimp only
  unfold convB
  cases hs : E.under src with
  | none => exact sound_no
  | some sd =>
  have hs' := hE.under hs
  dsimp only
  cases hd : E.under dst with
  | none => exact sound_no
  | some dd =>
  have hd' := hE.under hd
  cases dd <;> dsimp only <;> first | exact sound_no | skip
  · refine sound_pure1 (x := x) (by rw [ho]; rfl) fun u v h ρ a w r => ?_
    rename_i k
    split at h
    · rename_i p hp
      cases h
      rw [asInt_iff.1 hp, VR.int_iff] at r
      refine ⟨.int k (k.wrap p.2), ?_, VR.int_iff.2 (by rw [wrapI_eq])⟩
      simp [execOp, ho, r, convert, run_underlying hs', run_underlying hd', Conv.intToInt]
    · cases h
  · cases sd <;> dsimp only <;> first | exact sound_no | skip
    · refine sound_pure1 (x := x) (by rw [ho]; rfl) fun u v h ρ a w r => ?_
      split at h
      · rename_i l hl
        cases h
        rw [asStr_iff.1 hl] at r
        have r' := r
        rw [VR.str_iff] at r
        refine ⟨a.eval x, ?_, r'⟩
        simp [execOp, ho, r.1, convert, run_underlying hs', run_underlying hd']
      · cases h
    · rename_i e
      cases he : E.under e with
      | none => exact sound_no
      | some ed =>
      have he' := hE.under he
      cases ed <;> first | exact sound_no | skip
      rename_i k
      cases k <;> first | exact sound_no | skip
      refine sound_read1 (x := x) (by rw [ho]; rfl) fun C ρ s w a u v h r hok => ?_
      obtain ⟨y, h1, h2, ad, n, c, e⟩ := bytesOf_ok (P := P) hok h r
      refine ⟨y, ?_, h2⟩
      rw [e] at h1
      have := run_convert_bytes_string (P := P) w src dst _ ad n c hs' he' hd'
      simp [execOp, ho, e, this, h1]
  · rename_i e
    cases sd <;> dsimp only <;> first | exact sound_no | skip
    cases he : E.under e with
    | none => exact sound_no
    | some ed =>
    have he' := hE.under he
    cases ed <;> first | exact sound_no | skip
    rename_i k
    cases k <;> first | exact sound_no | skip
    refine sound_eff fun C ρ s s' w a l v h hx hok => ?_
    split at h
    · rename_i sx
      rw [ho] at hx
      obtain ⟨v1, e1, r1⟩ := hx.one
      simp [Op.operands] at e1
      subst e1
      split at h
      · rename_i b hb
        rw [asStr_iff.1 hb, VR.str_iff] at r1
        obtain ⟨ev, hlt⟩ := r1
        obtain ⟨w', h1, h2, h3, h4⟩ := ro_ok (e := e) hok hlt h
        have hrun := Lib.run_convert_string_bytes (P := P) w src dst e (strOf b) hs' hd' he'
        refine ⟨_, _, w', .inl ?_, h2, h3, h4⟩
        rw [h1] at hrun
        simp [execOp, ho, ev, hrun]
      · cases h
    · cases h

end
end Go.Exe
namespace Go.Exe
open Go
section
variable {P : Program} {K : CallF} {o : Oper} {E : Env}

theorem Ok.newObj {C : Ctx} {ρ : Ren} {s s' : ST} {w : World} (hok : Ok C ρ s w) {v v' : SV} {x : SO} {ob : Obj} (h : s.new v x = some (v', s')) (hx : ∀ ρ', ρ.le ρ' → ObjR ρ' ⟨w.heap.size, 0, 0⟩ x ob) (hnl : x.isL = false := by rfl) :
    v' = v ∧ Ok C (ρ.up s.next ⟨w.heap.size, 0, 0⟩) s' (w.alloc ob) ∧ Ext s s' ρ (ρ.up s.next ⟨w.heap.size, 0, 0⟩) := by
  obtain ⟨hn, rfl, rfl⟩ := new_ok h
  exact ⟨rfl, hok.alloc hn rfl (hx _ (hok.up _)) hnl, Ext.alloc hok hn _ _⟩

theorem mk_map0 {t : Nat} (ho : o.op = .makeMap t none) : MkSound P o fun _ => some (⟨fun n => .mp n⟩, .map [] 0) := by
  intro ρ w a xs g x hx h
  cases h
  refine ⟨.map (some w.heap.size), .map #[] 0, 0, ?_, fun ρ' num hle hn => ⟨VR.mp_iff.2 ⟨_, hn, rfl⟩, ⟨#[], rfl, rfl⟩, rfl⟩⟩
  simp [execOp, ho, Instr.makeMap]
theorem mk_map1 {t : Nat} {r : Operand} {k e : TypeId} (hu : P.underlying t = some (.map k e)) (ho : o.op = .makeMap t (some r)) : MkSound P o fun l => match l with
      | [x] => match x.asInt with
        | some _ => some (⟨fun n => .mp n⟩, .map [] 0)
        | none => none
      | _ => none := by
  intro ρ w a xs g x hx h
  dsimp only at h
  split at h
  · rename_i x
    split at h
    · rename_i p hp
      cases h
      rw [ho] at hx
      obtain ⟨vx, e, rx⟩ := hx.one
      simp [Op.operands] at e
      subst e
      rw [asInt_iff.1 hp, VR.int_iff] at rx
      refine ⟨.map (some w.heap.size), .map #[] 0, 0, ?_, fun ρ' num hle hn => ⟨VR.mp_iff.2 ⟨_, hn, rfl⟩, ⟨#[], rfl, rfl⟩, rfl⟩⟩
      simp [execOp, ho, Instr.makeMap, run_underlying hu, rx, asInt, asIntOf]
    · cases h
  · cases h
theorem sound_makeMap {t : Nat} {r : Option Operand} (hE : EnvOk P E) (ho : o.op = .makeMap t r) : Sound P K o (opB E o) := by
  unfold opB
  rw [ho]
  cases r with
  | none => exact sound_mk (mk_map0 ho)
  | some r =>
    dsimp only
    cases hu : E.under t with
    | none => exact sound_no
    | some d =>
    have hu' := hE.under hu
    cases d <;> dsimp only <;> first | exact sound_no | skip
    exact sound_mk (mk_map1 hu' ho)

theorem mk_buildSlice {t n e z : Nat} {zv : List SV} {ps : Array (Nat × Operand)} (hE : EnvOk P E) (hu' : P.underlying t = some (.slice e)) (he : E.elem e = some (z, zv)) (hb : n * z ≤ 65536) (ho : o.op = .buildSlice t n ps) :
    MkSound P o fun l => match fillS (fun i => some (i * z, z)) (repL zv n) ((ps.toList.map (·.1)).zip l) with
              | some cs => some (⟨fun j => .sl j 0 n n⟩, .cells (Nat.add (Nat.mul 2 e) 1) cs)
              | none => none := by
  intro ρ w a l g x hx h
  obtain ⟨i, zval, hi, hz, hsz, hzl, hby, hc⟩ := elem_ok hE he
  obtain ⟨hc1, hc2⟩ := hc ρ
  rw [ho] at hx
  have hp : PVR ρ ((ps.toList.map (·.1)).zip l) (ps.toList.map fun p => (p.1, a.eval p.2)) := by
    refine pvr_zip ?_
    have e : (List.map a.eval (Op.buildSlice t n ps).operands.toList) = ps.toList.map fun p => a.eval p.2 := by simp [Op.operands]
    rw [← e]; exact hx
  dsimp only at h
  split at h
  · rename_i cs hf
    cases h
    have hzs : zval.cells.size = z := by have := hc1.length; simp at this; omega
    have hc1' := hc1.rep n
    obtain ⟨ys, hy, h2, h3, h4⟩ := fill_ok (pl' := fun i => some (i * z, z)) (fun i x hx => hx) hp hc1' (repV_one hc2 n) hf
    refine ⟨.slice (some ⟨w.heap.size, 0, none⟩) n n, .cells ⟨ys⟩ e, (⟨ys⟩ : Array Value).size, ?_, fun ρ' num hle hn => ⟨VR.sl_iff.2 ⟨_, hn, rfl⟩, objR_new hle h2 h3, rfl⟩⟩
    have hparts : (ps.map fun (i, x) => (i, a.eval x)).toList = ps.toList.map fun p => (p.1, a.eval p.2) := by simp
    have hbig : ¬ (n * z > 2 ^ 24) := by omega
    simp only [execOp, ho]
    rw [Sem.run_bind]
    unfold Instr.buildSlice
    rw [Sem.run_bind, run_underlying hu' w, Result.andThen_ok]
    dsimp only
    rw [Sem.run_bind, run_sizeOf' hi, Result.andThen_ok, hsz, if_neg hbig]
    by_cases h0 : n * z = 0
    · have e0 : repV zval.cells.toList n = [] := by
        apply List.eq_nil_of_length_eq_zero
        rw [repV_length]
        simpa [hzs] using h0
      rw [e0] at hy
      have hr0 : (Array.range 0) = #[] := rfl
      simp [h0, hy, newRow, hr0]
    · have hr := range_zeros zval.cells n (by rw [hzs]; rcases Nat.eq_zero_or_pos z with h' | h' <;> simp_all)
      rw [hzs] at hr
      simp only [h0, if_false]
      simp [run_zeroValue' hi hz, hzs, hr, hy, newRow]
  · cases h

theorem sound_buildSlice {t n : Nat} {ps : Array (Nat × Operand)} (hE : EnvOk P E) (ho : o.op = .buildSlice t n ps) : Sound P K o (opB E o) := by
  unfold opB
  rw [ho]
  dsimp only
  cases hu : E.under t with
  | none => exact sound_no
  | some d =>
  have hu' := hE.under hu
  cases d <;> dsimp only <;> first | exact sound_no | skip
  rename_i e
  cases he : E.elem e with
  | none => exact sound_no
  | some q =>
  obtain ⟨z, zv⟩ := q
  dsimp only
  split
  · rename_i hb
    exact sound_mk (mk_buildSlice hE hu' he (Nat.le_of_ble_eq_true hb) ho)
  · exact sound_no

theorem mk_makeSlice {t e z : Nat} {zv : List SV} {x y : Operand} (hE : EnvOk P E) (hu' : P.underlying t = some (.slice e)) (he : E.elem e = some (z, zv)) (ho : o.op = .makeSlice t x y) :
    MkSound P o fun l => match l with
        | [x, y] => match x.asInt, y.asInt with
          | some (_, .ofNat n), some (_, .ofNat c) => match Nat.ble n c && Nat.ble c 65536 with
            | true => some (⟨fun j => .sl j 0 n c⟩, .cells (Nat.add (Nat.mul 2 e) 1) (repL zv c))
            | false => none
          | _, _ => none
        | _ => none := by
  intro ρ w a l g sx hx h
  obtain ⟨i, zval, hi, hz, hsz, hzl, hby, hc⟩ := elem_ok hE he
  obtain ⟨hc1, hc2⟩ := hc ρ
  dsimp only at h
  split at h
  · rename_i sx sy
    rw [ho] at hx
    obtain ⟨vx, vy, e1, rx, ry⟩ := hx.two
    simp [Op.operands] at e1
    obtain ⟨rfl, rfl⟩ := e1
    split at h
    · rename_i k1 n k2 c e2 e3
      rw [asInt_iff.1 e2, VR.int_iff] at rx
      rw [asInt_iff.1 e3, VR.int_iff] at ry
      split at h
      · rename_i hb
        cases h
        simp only [Bool.and_eq_true] at hb
        have hnc := Nat.le_of_ble_eq_true hb.1
        have hc6 := Nat.le_of_ble_eq_true hb.2
        have hzs : zval.cells.size = z := by have := hc1.length; simp at this; omega
        have hrep := hc1.rep c
        have hcells : madeCells zval.cells (c * z) = ⟨repV zval.cells.toList c⟩ := by
          by_cases h0 : z = 0
          · subst h0
            have e0 : repV zval.cells.toList c = [] := by
              apply List.eq_nil_of_length_eq_zero
              rw [repV_length]
              simp [hzs]
            simp [e0, madeCells]
          · have := range_zeros zval.cells c (by omega)
            rw [hzs] at this
            exact (by unfold madeCells; rw [hzs]; exact this)
        refine ⟨.slice (some ⟨w.heap.size, 0, none⟩) n c, .cells ⟨repV zval.cells.toList c⟩ e, (⟨repV zval.cells.toList c⟩ : Array Value).size, ?_, fun ρ' num hle hn => ⟨VR.sl_iff.2 ⟨_, hn, rfl⟩, objR_new hle hrep (repV_one hc2 c), rfl⟩⟩
        have hbytes : (i.bytes : Int) * (c : Int) ≤ 281474976710656 := by
          have h1 : i.bytes * c ≤ 1048576 * 65536 := Nat.mul_le_mul hby hc6
          have h2 : ((i.bytes * c : Nat) : Int) ≤ 281474976710656 := by omega
          rwa [Int.natCast_mul] at h2
        have hrun := run_make (P := P) w t e i zval hu' hi hz k1 k2 (n : Int) (c : Int) (by omega) (by omega) hbytes (by omega)
        simp only [Int.toNat_natCast, hsz, hcells] at hrun
        have e4 : a.eval x = .int k1 (n : Int) := rx
        have e5 : a.eval y = .int k2 (c : Int) := ry
        simp [execOp, ho, e4, e5, hrun]
      · cases h
    · cases h
  · cases h

theorem sound_makeSlice {t : Nat} {x y : Operand} (hE : EnvOk P E) (ho : o.op = .makeSlice t x y) : Sound P K o (opB E o) := by
  unfold opB
  rw [ho]
  dsimp only
  cases hu : E.under t with
  | none => exact sound_no
  | some d =>
  have hu' := hE.under hu
  cases d <;> dsimp only <;> first | exact sound_no | skip
  rename_i e
  cases he : E.elem e with
  | none => exact sound_no
  | some q =>
  obtain ⟨z, zv⟩ := q
  exact sound_mk (mk_makeSlice hE hu' he ho)

/-- what an operation that makes a block does, whatever it is -/
theorem opB_mk (hE : EnvOk P E) {f : List SV → Option (Fun Nat SV × SO)} (h : opB E o = .mk f) : MkSound P o f := by
  have hno : ∀ {g : List SV → Option (Fun Nat SV × SO)}, OpB.no = .mk g → False := fun h => by cases h
  cases ho : o.op
  case alloc t =>
    unfold opB at h; rw [ho] at h; dsimp only at h
    cases hz : E.zeroC t with
    | none => rw [hz] at h; cases h
    | some z => rw [hz] at h; cases h; exact mk_alloc hE ho hz
  case box t x => unfold opB at h; rw [ho] at h; cases h; exact mk_box ho
  case buildSlice t n ps =>
    unfold opB at h; rw [ho] at h; dsimp only at h
    cases hu : E.under t with
    | none => rw [hu] at h; cases h
    | some d =>
    rw [hu] at h
    have hu' := hE.under hu
    cases d <;> dsimp only at h <;> first | (cases h; done) | skip
    rename_i e
    cases he : E.elem e with
    | none => rw [he] at h; cases h
    | some q =>
    obtain ⟨z, zv⟩ := q
    rw [he] at h
    dsimp only at h
    split at h
    · rename_i hb; cases h; exact mk_buildSlice hE hu' he (Nat.le_of_ble_eq_true hb) ho
    · cases h
  case makeSlice t x y =>
    unfold opB at h; rw [ho] at h; dsimp only at h
    cases hu : E.under t with
    | none => rw [hu] at h; cases h
    | some d =>
    rw [hu] at h
    have hu' := hE.under hu
    cases d <;> dsimp only at h <;> first | (cases h; done) | skip
    rename_i e
    cases he : E.elem e with
    | none => rw [he] at h; cases h
    | some q =>
    obtain ⟨z, zv⟩ := q
    rw [he] at h
    cases h
    exact mk_makeSlice hE hu' he ho
  case makeMap t r =>
    unfold opB at h; rw [ho] at h
    cases r with
    | none => cases h; exact mk_map0 ho
    | some r =>
      dsimp only at h
      cases hu : E.under t with
      | none => rw [hu] at h; cases h
      | some d =>
      rw [hu] at h
      have hu' := hE.under hu
      cases d <;> dsimp only at h <;> first | (cases h; done) | skip
      cases h
      exact mk_map1 hu' ho
  all_goals (exfalso; unfold opB at h; rw [ho] at h; dsimp only at h)
  all_goals (try (cases h; done))
  all_goals (try (unfold updB at h))
  all_goals (try (unfold convB at h))
  all_goals (try (unfold rangeB at h))
  all_goals (repeat' split at h)
  all_goals (try (cases h; done))
  all_goals (try (unfold builtinB at h))
  all_goals (repeat' split at h)
  all_goals (try (cases h; done))

/-! ### append -/
theorem grownCap_ge (w : World) (need old : Nat) (e : TypeId) : need ≤ grownCap w need old e := by
  unfold grownCap
  exact Nat.le_add_right _ _
theorem zeroCells_size (z : Array Value) (n : Nat) : (Builtin.zeroCells z n).size = n * z.size := by simp [Builtin.zeroCells]

/-- what is appended -/
structure App (P : Program) (ρ : Ren) (w : World) (z m : Nat) (ys : Option (List SV)) (tx : TypeId) (u : Value) : Prop where
  kind : (∃ e', P.underlying tx = some (.slice e')) ∨ P.underlying tx = some .string
  len : ∀ w' : World, (Builtin.lenOf u).run P w' = .ok m w'
  zero : ∀ w' : World, (Builtin.firstCells z 0 u).run P w' = .ok #[] w'
  cells : ∀ new, ys = some new → ∃ news, VRL ρ new news ∧ (∀ x ∈ news, x.oneCell' = true) ∧ news.length = m * z ∧ ∀ w' : World, w'.heap = w.heap → (Builtin.firstCells z m u).run P w' = .ok ⟨news⟩ w'

theorem App.src {ρ : Ren} {w : World} {z m : Nat} {new : List SV} {tx : TypeId} {u : Value} (h : App P ρ w z m (some new) tx u) : ∃ news, VRL ρ new news ∧ Src P z tx u m news w := by
  obtain ⟨news, h1, h2, h3, h4⟩ := h.cells new rfl
  exact ⟨news, h1, h.kind, h.len, h4 w rfl, h4 w.drew rfl, h3, h2⟩
theorem App.src0 {ρ : Ren} {w : World} {z : Nat} {ys : Option (List SV)} {tx : TypeId} {u : Value} (h : App P ρ w z 0 ys tx u) : Src P z tx u 0 [] w :=
  ⟨h.kind, h.len, h.zero w, h.zero w.drew, by simp, by simp⟩

/-- a row that holds what there was, and more -/
theorem grow_cells {C : Ctx} {ρ : Ren} {s s' : ST} {w : World} (hok : Ok C ρ s w) {old new : List SV} {olds news : List Value} {zc : Array Value} {e : TypeId} {z n k : Nat} {v : SV}
    (h : s.new (.sx s.next 0 (n + (k + 1)) z) (.cells (Nat.mul 2 e) (old ++ new)) = some (v, s')) (h1 : VRL ρ old olds) (h2 : VRL ρ new news) (h3 : ∀ x ∈ olds, x.oneCell' = true) (h4 : ∀ x ∈ news, x.oneCell' = true)
    (hl1 : olds.length = n * z) (hl2 : news.length = (k + 1) * z) (hzc : zc.size = z) (cap : Nat) :
    ∃ ρ' w' v', w' = w.drew.alloc (.cells ((olds ++ news).toArray ++ Builtin.zeroCells zc (grownCap w (n + (k + 1)) cap e - (n + (k + 1)))) e) ∧
      v' = .slice (some ⟨w.heap.size, 0, none⟩) (n + (k + 1)) (grownCap w (n + (k + 1)) cap e) ∧ Ext s s' ρ ρ' ∧ VR ρ' v v' ∧ Ok C ρ' s' w' := by
  have happ := h1.append h2
  have hlen := happ.length
  have e0 : ((olds ++ news).toArray ++ Builtin.zeroCells zc (grownCap w (n + (k + 1)) cap e - (n + (k + 1)))).toList = (olds ++ news) ++ (Builtin.zeroCells zc (grownCap w (n + (k + 1)) cap e - (n + (k + 1)))).toList := by simp
  have e1 : List.take (old ++ new).length (((olds ++ news).toArray ++ Builtin.zeroCells zc (grownCap w (n + (k + 1)) cap e - (n + (k + 1)))).toList) = olds ++ news := by
    rw [e0, ← hlen, List.take_left]
  obtain ⟨rfl, h5, h6⟩ := hok.drew.newCells (xs := (olds ++ news).toArray ++ Builtin.zeroCells zc (grownCap w (n + (k + 1)) cap e - (n + (k + 1)))) (t := e) h
    (by simp at hlen ⊢; omega) (by rw [e1]; exact happ) (by
      rw [e1]
      intro x hx
      rcases List.mem_append.1 hx with hx | hx
      · exact h3 x hx
      · exact h4 x hx)
  refine ⟨_, _, _, rfl, rfl, h6, VR.sx_iff.2 ⟨_, _, _, Ren.up_same _ _ _, rfl, .inl ⟨rfl, grownCap_ge _ _ _ _, ?_⟩⟩, h5⟩
  simp only [Nat.zero_add, Array.size_append, List.size_toArray, List.length_append, zeroCells_size, hl1, hl2, hzc]
  have := grownCap_ge w (n + (k + 1)) cap e
  generalize grownCap w (n + (k + 1)) cap e = g at *
  have : g * z = (n + (k + 1)) * z + (g - (n + (k + 1))) * z := by rw [← Nat.add_mul]; congr 1; omega
  rw [this, Nat.add_mul]
  exact Nat.le_refl _

theorem fits {need old bytes : Nat} (h : old < need) (hn : need ≤ 1048576) (hb : bytes ≤ 1048576) : Builtin.nextslicecap need old * bytes ≤ 281474976710656 :=
  growslice_fits h (Nat.le_trans (Nat.mul_le_mul hn hb) (by decide))

theorem append_ok (hE : EnvOk P E) {t tx ty e z : Nat} {zv : List SV} (he : E.elem e = some (z, zv)) (ht : P.underlying t = some (.slice e)) {x v : SV} {m : Nat} {ys : Option (List SV)} {s s' : ST}
    (h : appendS e z x m ys s = some (v, s')) {C : Ctx} {ρ : Ren} {w : World} (hok : Ok C ρ s w) {u uy : Value} (hx : VR ρ x u) (ha : App P ρ w z m ys tx uy) :
    ∃ ρ' v' w', (Builtin.append_ #[t, tx] ty #[u, uy]).run P w = .ok v' w' ∧ Ext s s' ρ ρ' ∧ VR ρ' v v' ∧ Ok C ρ' s' w' := by
  obtain ⟨i, zval, hi, hz, hsz, hzl, hby, hc⟩ := elem_ok hE he
  subst hsz
  obtain ⟨hc1, hc2⟩ := hc ρ
  have hzs : zval.cells.size = i.size := by have := hc1.length; simp at this; omega
  unfold appendS at h
  cases m with
  | zero =>
    have hs := ha.src0
    dsimp only at h
    split at h
    · rename_i j oo n c
      split at h
      · rename_i hb
        cases h
        have hx' := hx
        rw [VR.sl_iff] at hx
        obtain ⟨p, hp, rfl⟩ := hx
        exact ⟨ρ, _, w, run_append_nothing w t tx ty e i ht hi _ n c (Nat.le_of_ble_eq_true hb) uy hs, Ext.refl _ _, hx', hok⟩
      · cases h
    · rename_i j oo n c
      cases h
      have hx' := hx
      rw [VR.sx_iff] at hx
      obtain ⟨p, ad, c', hp, rfl, hcase⟩ := hx
      exact ⟨ρ, _, w, run_append_nothing w t tx ty e i ht hi _ n c' (by rcases hcase with ⟨_, h1, _⟩ | ⟨h1, h2⟩ <;> omega) uy hs, Ext.refl _ _, hx', hok⟩
    · cases h
      have hx' := hx
      rw [VR.nils_iff] at hx
      subst hx
      exact ⟨ρ, _, w, run_append_nothing w t tx ty e i ht hi _ 0 0 (Nat.le_refl _) uy hs, Ext.refl _ _, hx', hok⟩
    · cases h
  | succ k =>
    dsimp only at h
    cases ys with
    | none => cases h
    | some new =>
    dsimp only at h
    obtain ⟨news, hv, hs⟩ := ha.src
    have hnl := hs.newsLen
    split at h
    · rw [VR.nils_iff] at hx
      subst hx
      split at h
      · rename_i hb
        have hb := Nat.le_of_ble_eq_true hb
        have h' : s.new (.sx s.next 0 (0 + (k + 1)) i.size) (.cells (Nat.mul 2 e) ([] ++ new)) = some (v, s') := by simpa using h
        obtain ⟨ρ', w', v', rfl, rfl, h2, h3, h4⟩ := grow_cells (e := e) hok h' .nil hv (by simp) hs.one (by simp) hnl hzs 0
        exact ⟨ρ', _, _, run_append_grow_src w t tx ty e i zval ht hi hz none 0 0 [] (run_firstCells_none _ _ _ _ _) uy (k + 1) news hs (by omega) (by omega) (fits (by omega) (by omega) hby), h2, h3, h4⟩
      · cases h
    · rename_i j oo n c
      rw [VR.sl_iff] at hx
      obtain ⟨p, hp, rfl⟩ := hx
      split at h
      · rename_i hb
        have hb := Nat.le_of_ble_eq_true hb
        split at h
        · rename_i l hl
          split at h
          · rename_i r hr
            split at h
            · rename_i s1 hput
              cases h
              obtain ⟨w', h1, h2, h3⟩ := hok.putCells (P := P) hp hl hr hput hv hs.one
              refine ⟨ρ, .slice (some ⟨p.blk, p.off + oo, none⟩) (n + (k + 1)) c, w', ?_, h3, VR.sl_iff.2 ⟨p, hp, rfl⟩, h2⟩
              rw [← Nat.add_assoc] at h1
              rcases hs.kind with ⟨e', hk⟩ | hk <;> simp [Builtin.append_, run_underlying ht, run_underlying hk, sizeOf, typeInfo, hi, hs.len, hb, hs.cells, Addr.add_lit, h1]
            · cases h
          · cases h
        · cases h
      · rename_i hb
        have hb : ¬ (n + (k + 1) ≤ c) := fun hh => by rw [Nat.ble_eq_true_of_le hh] at hb; cases hb
        split at h
        · rename_i hb2
          have hb2 := Nat.le_of_ble_eq_true hb2
          split at h
          · rename_i old hold
            obtain ⟨olds, ho1, ho2, ho3⟩ := first_okH (P := P) hok hold (VR.sl_iff.2 ⟨p, hp, rfl⟩)
            have hol : olds.length = n * i.size := by
              have := ho2.length
              unfold firstS at hold
              simp only [SV.asSl] at hold
              split at hold
              · split at hold
                · obtain ⟨q1, q2⟩ := takeFrom_eq _ _ _ _ hold
                  rw [this, q2]
                  simp only [List.length_take, List.length_drop]
                  have : Nat.mul n i.size = n * i.size := rfl
                  omega
                · cases hold
              · cases hold
            obtain ⟨ρ', w', v', rfl, rfl, h2, h3, h4⟩ := grow_cells (e := e) hok h ho2 hv ho3 hs.one hol hnl hzs c
            exact ⟨ρ', _, _, run_append_grow_src w t tx ty e i zval ht hi hz _ n c olds (ho1 _ rfl) uy (k + 1) news hs (by omega) (by omega) (fits (by omega) hb2 hby), h2, h3, h4⟩
          · cases h
        · cases h
    · rename_i j oo n z'
      have hx' := hx
      rw [VR.sx_iff] at hx
      obtain ⟨p, ad, c, hp, rfl, hcase⟩ := hx
      split at h
      · rename_i hb
        simp only [Bool.and_eq_true] at hb
        obtain ⟨hb1, hb2⟩ := hb
        have hb1 := Nat.eq_of_beq_eq_true hb1
        have hb2 := Nat.le_of_ble_eq_true hb2
        subst hb1
        split at h
        rotate_left
        · cases h
        rename_i q0 hct
        split at h
        rotate_left
        · cases h
        rename_i hte
        have hte := Nat.eq_of_beq_eq_true hte
        split at h
        · rename_i old hold
          split at h
          · rename_i s1 hput
            have hj : j < 32768 := Nat.lt_of_lt_of_le (hok.dom j p hp) hok.bound
            have hextk := Ext.put hok hput hj
            obtain ⟨e1, _⟩ := put_ok hput
            have hk := hok.kill hj
            rw [← e1] at hk
            obtain ⟨olds, ho1, ho2, ho3⟩ := first_okH (P := P) hok hold hx'
            have hcl : ∃ l, s.cellsOf j = some l ∧ takeFrom l oo (n * i.size) = some old := by
              unfold firstS at hold
              simp only [SV.asSl] at hold
              split at hold
              · split at hold
                · rename_i l hl
                  exact ⟨l, hl, hold⟩
                · cases hold
              · cases hold
            obtain ⟨l, hl, htf⟩ := hcl
            have hct' : s.cellsT j = some (Nat.mul 2 e, l) := by
              obtain ⟨t0, h0⟩ := asCells_iff.1 hl
              have h1 := asCellsT_iff.1 hct
              rw [h1] at h0
              injection h0 with h2 h3
              rw [hct, ← hte, ← h3]
            have hol : olds.length = n * i.size := by
              rw [ho2.length]
              obtain ⟨q1, q2⟩ := takeFrom_eq _ _ _ _ htf
              rw [q2]
              simp only [List.length_take, List.length_drop]
              omega
            by_cases hroom : n + (k + 1) ≤ c
            · -- there is room
              rcases hcase with ⟨rfl, hnc, hstop⟩ | ⟨h0, h1⟩
              · obtain ⟨arr, harr, hsz, hll, hvl, hone, _⟩ := hok.cellsT hp hct'
                have hdiv : Nat.mul 2 e / 2 = e := Nat.mul_div_cancel_left e (by omega)
                dsimp only at harr hll hvl hone
                rw [hdiv] at harr
                obtain ⟨q1, q2⟩ := takeFrom_eq _ _ _ _ htf
                have hspace : n * i.size + (k + 1) * i.size ≤ c * i.size := by rw [← Nat.add_mul]; exact Nat.mul_le_mul_right _ hroom
                have hst := run_storeCells_at P p.blk (p.off + oo + n * i.size) e news 0 arr w harr (by omega) hs.one
                rw [setRow_eq w _ arr _ e harr] at hst
                obtain ⟨hn, e2, e3⟩ := new_ok h
                have hs1 : s1.next = s.next := by rw [e1]
                have hold2 : olds = (arr.toList.drop (p.off + oo)).take (n * i.size) := by
                  have hr := ho1 w rfl
                  have hload : (Builtin.firstCells i.size n (.slice (some ⟨p.blk, p.off + oo, none⟩) n c)).run P w = .ok ((arr.toList.drop (p.off + oo)).take (n * i.size)).toArray w := by
                    refine run_firstCells_some w i.size n _ n c _ (by simp; omega) fun jj vv hh => ?_
                    rw [Addr.add_mid]
                    rw [List.getElem?_take] at hh
                    split at hh
                    · rw [List.getElem?_drop] at hh
                      simp only [World.cell?, harr, Option.isSome_none, Bool.false_eq_true, if_false]
                      rw [← Array.getElem?_toList]
                      exact hh
                    · cases hh
                  rw [hr] at hload
                  injection hload with h7
                  have := congrArg Array.toList h7
                  simpa using this
                have hle := hk.up ⟨p.blk, p.off + oo, p.stop⟩
                have hfin := (ho2.append hv).mono hle
                have hap2 := hk.adopt (p := ⟨p.blk, p.off + oo, p.stop⟩) (x := .cells (Nat.mul 2 e) (old ++ new)) (by omega) (w' := { w with heap := w.heap.setIfInBounds p.blk (.cells ((arr.toList.take (p.off + oo + n * i.size + 0) ++ news ++ arr.toList.drop (p.off + oo + n * i.size + 0 + news.length)).toArray) e (0, 0)) })
                  (o := .cells ((arr.toList.take (p.off + oo + n * i.size + 0) ++ news ++ arr.toList.drop (p.off + oo + n * i.size + 0 + news.length)).toArray) e (0, 0)) rfl rfl rfl
                  (fun b ob hne hb => by
                    show (w.heap.setIfInBounds p.blk _)[b]? = some ob
                    rw [Array.getElem?_setIfInBounds_ne (Ne.symm hne)]
                    exact hb)
                  (by
                    show (w.heap.setIfInBounds p.blk _)[p.blk]? = _
                    have := hok.blk_lt hp (live_cells hct')
                    simp [this])
                  (fun ii q hq hi' => by
                    have hne : ii ≠ j := by
                      rintro rfl
                      rw [e1] at hi'
                      rw [show (ST.heap ⟨s.heap.set ii .dead, s.next, s.lo, s.it⟩) = s.heap.set ii .dead from rfl, H3.get_set_same _ _ hj] at hi'
                      cases hi'
                    have hlive : (s.heap.get ii).live = true := by
                      rw [e1] at hi'
                      rwa [show (ST.heap ⟨s.heap.set j .dead, s.next, s.lo, s.it⟩) = s.heap.set j .dead from rfl, H3.get_set_ne _ _ hj (Nat.lt_of_lt_of_le (hok.dom ii q hq) hok.bound) hne] at hi'
                    exact fun hb => hne (hok.inj ii j q p hq hp hlive (live_cells hct') hb))
                  (fun b ob hF => fun hb => (hok.far b ob hF).2 j p hp (live_cells hct') hb.symm)
                  (by
                    refine ⟨_, by rw [hdiv], ?_, ?_, ?_, ?_, fun hodd => absurd ((Nat.mul_mod_right 2 e).symm.trans hodd) (by decide)⟩
                    · simp; omega
                    · simp only [List.length_append]
                      have := hv.length
                      have := ho2.length
                      omega
                    · have e5 : (List.drop (p.off + oo) (arr.toList.take (p.off + oo + n * i.size + 0) ++ news ++ arr.toList.drop (p.off + oo + n * i.size + 0 + news.length))).take (old ++ new).length = olds ++ news := by
                        have hA : (arr.toList.take (p.off + oo + n * i.size + 0)).drop (p.off + oo) = olds := by
                          rw [hold2, List.drop_take]; congr 1; omega
                        have hTl : (arr.toList.take (p.off + oo + n * i.size + 0)).length = p.off + oo + n * i.size := by simp; omega
                        rw [List.append_assoc, List.drop_append_of_le_length (by omega), hA, ← List.append_assoc, List.take_left' (by have := (ho2.append hv).length; omega)]
                      simp only []
                      rw [e5]
                      exact hfin
                    · have e5 : (List.drop (p.off + oo) (arr.toList.take (p.off + oo + n * i.size + 0) ++ news ++ arr.toList.drop (p.off + oo + n * i.size + 0 + news.length))).take (old ++ new).length = olds ++ news := by
                        have hA : (arr.toList.take (p.off + oo + n * i.size + 0)).drop (p.off + oo) = olds := by
                          rw [hold2, List.drop_take]; congr 1; omega
                        have hTl : (arr.toList.take (p.off + oo + n * i.size + 0)).length = p.off + oo + n * i.size := by simp; omega
                        rw [List.append_assoc, List.drop_append_of_le_length (by omega), hA, ← List.append_assoc, List.take_left' (by have := (ho2.append hv).length; omega)]
                      simp only []
                      rw [e5]
                      intro y hy
                      rcases List.mem_append.1 hy with hy | hy
                      · exact ho3 y hy
                      · exact hs.one y hy) rfl
                refine ⟨_, .slice (some ⟨p.blk, p.off + oo, none⟩) (n + (k + 1)) c, _, ?_, hextk.trans (by rw [e3]; exact Ext.alloc hk hn ⟨p.blk, p.off + oo, p.stop⟩ _), ?_, by rw [e3]; exact hap2⟩
                · simp only [Nat.add_zero] at hst
                  rcases hs.kind with ⟨e', hkk⟩ | hkk <;> simp [Builtin.append_, run_underlying ht, run_underlying hkk, sizeOf, typeInfo, hi, hs.len, hroom, hs.cells, Addr.add_lit, hst]
                · rw [e2]
                  exact VR.sx_iff.2 ⟨_, _, _, Ren.up_same _ _ _, rfl, .inl ⟨rfl, hroom, by simpa using hstop⟩⟩
              · omega
            · have hs1 : s1.next = s.next := by rw [e1]
              have h' : s1.new (.sx s1.next 0 (n + (k + 1)) i.size) (.cells (Nat.mul 2 e) (old ++ new)) = some (v, s') := h
              obtain ⟨ρ', w', v', rfl, rfl, h2, h3, h4⟩ := grow_cells (e := e) hk h' ho2 hv ho3 hs.one hol hnl hzs c
              exact ⟨ρ', _, _, run_append_grow_src w t tx ty e i zval ht hi hz _ n c olds (ho1 _ rfl) uy (k + 1) news hs (by omega) (by omega) (fits (by omega) hb2 hby), hextk.trans h2, h3, h4⟩
          · cases h
        · cases h
      · cases h
    · cases h
end
end Go.Exe
namespace Go.Exe
open Go

/-! ### Keys, as the model has them -/
def fitV1 (b : Bool) (v : Value) : Prop :=
  match b with
  | false => ∃ k n, v = .int k n
  | true => ∃ s, v = .string s
def fitVN : List Bool → List Value → Prop
  | [], l => l = []
  | b :: bs, l => ∃ v vs, l = v :: vs ∧ fitV1 b v ∧ fitVN bs vs
def FitV : KeyD → Value → Prop
  | .int, v => fitV1 false v
  | .str, v => fitV1 true v
  | .many l, v => ∃ xs, v = .agg ⟨xs⟩ ∧ fitVN l xs

def eqV1 (b : Bool) (x y : Value) : Option Bool :=
  match b, x, y with
  | false, .int k a, .int l b => if k = l then some (a == b) else none
  | true, .string a, .string b => some (a == b)
  | _, _, _ => none
def eqVN : List Bool → List Value → List Value → Option Bool
  | [], [], [] => some true
  | b :: l, x :: xs, y :: ys => match eqV1 b x y with
    | some r => match eqVN l xs ys with
      | some q => some (r && q)
      | none => none
    | none => none
  | _, _, _ => none
def eqV : KeyD → Value → Value → Option Bool
  | .int => eqV1 false
  | .str => eqV1 true
  | .many l => fun x y => match x, y with
    | .agg ⟨a⟩, .agg ⟨b⟩ => eqVN l a b
    | _, _ => none

theorem eqV1_int {x y : Value} {r : Bool} (h : eqV1 false x y = some r) : ∃ k a b, x = .int k a ∧ y = .int k b ∧ r = (a == b) := by
  unfold eqV1 at h
  split at h
  · rename_i k a l b _
    split at h
    · rename_i hk
      subst hk
      exact ⟨_, _, _, rfl, rfl, (Option.some.inj h).symm⟩
    · cases h
  · rename_i hh; cases hh
  · cases h
theorem eqV1_str {x y : Value} {r : Bool} (h : eqV1 true x y = some r) : ∃ a b, x = .string a ∧ y = .string b ∧ r = (a == b) := by
  unfold eqV1 at h
  split at h
  · rename_i hh; cases hh
  · exact ⟨_, _, rfl, rfl, (Option.some.inj h).symm⟩
  · cases h

/-- a type's keys are what is said -/
structure KeyFits (P : Program) (t : Nat) (D : KeyD) : Prop where
  desc : ∃ d, P.underlying t = some d
  check : ∀ v, FitV D v → ∀ b w, (Instr.checkKey b 10000 t v).run P w = .ok () w
  equal : ∀ x y r, eqV D x y = some r → ∀ w, (Op.equal t x y).run P w = .ok r w
  now : ∀ d x y r r', P.underlying t = some d → eqV D x y = some r → Instr.sameNow d x y = some r' → r' = r

section
variable {P : Program} {K : CallF} {o : Oper} {E : Env}

theorem keyFits_int {t : Nat} {k : IntKind} (h : P.underlying t = some (.int k)) : KeyFits P t .int := by
  refine ⟨⟨_, h⟩, ?_, ?_, ?_⟩
  · rintro v ⟨k', n, rfl⟩ b w
    unfold Instr.checkKey
    simp [run_underlying h]
  · intro x y r he w
    obtain ⟨k, a, b, rfl, rfl, rfl⟩ := eqV1_int he
    show (Op.equalIn (9999 + 1) t _ _).run P w = _
    unfold Op.equalIn
    simp [run_underlying h]
  · intro d x y r r' hd he hn
    rw [h] at hd
    cases hd
    obtain ⟨k, a, b, rfl, rfl, rfl⟩ := eqV1_int he
    simp only [Instr.sameNow, if_true] at hn
    exact (Option.some.inj hn).symm
theorem keyFits_str {t : Nat} (h : P.underlying t = some .string) : KeyFits P t .str := by
  refine ⟨⟨_, h⟩, ?_, ?_, ?_⟩
  · rintro v ⟨s, rfl⟩ b w
    unfold Instr.checkKey
    simp [run_underlying h]
  · intro x y r he w
    obtain ⟨a, b, rfl, rfl, rfl⟩ := eqV1_str he
    show (Op.equalIn (9999 + 1) t _ _).run P w = _
    unfold Op.equalIn
    simp [run_underlying h]
  · intro d x y r r' hd he hn
    rw [h] at hd
    cases hd
    obtain ⟨a, b, rfl, rfl, rfl⟩ := eqV1_str he
    simp only [Instr.sameNow] at hn
    exact (Option.some.inj hn).symm

/-- what is told of keys is so -/
def KtOk (P : Program) (E : Env) : Prop := ∀ t l, E.kt t = some l → KeyFits P t (.many l)

theorem kd_ok (hE : EnvOk P E) (hK : KtOk P E) {t : Nat} {D : KeyD} (h : E.kd t = some D) : KeyFits P t D := by
  unfold Env.kd at h
  split at h
  · rename_i k hk; cases h; exact keyFits_int (hE.under hk)
  · rename_i hk; cases h; exact keyFits_str (hE.under hk)
  · split at h
    · rename_i l hl; cases h; exact hK t l hl
    · cases h

theorem strOf_beq {a b : List Nat} (ha : ∀ x ∈ a, x < 256) (hb : ∀ x ∈ b, x < 256) : (strOf a == strOf b) = eqL a b := by
  rw [Bool.eq_iff_iff, MapKept.bytes_beq, eqL_iff]
  constructor
  · intro h
    have h2 : ((strOf a).toList == (strOf b).toList) = true := by rw [h]; simp
    rw [strOf_inj ha hb, eqL_iff] at h2
    exact h2
  · intro h; rw [h]

theorem get_map {w : World} {r c : Nat} {a : Array MapEntry} (h : w.heap[r]? = some (.map a c)) : (getObj r).run P w = .ok (.map a c) w := by simp [getObj, Sem.run, h]
theorem set_map {w : World} {r c : Nat} {a : Array MapEntry} (o : Obj) (h : w.heap[r]? = some (.map a c)) : (setObj r o).run P w = .ok () { w with heap := w.heap.setIfInBounds r o } := by simp [setObj, Sem.run, h]
theorem sameBits_int (n : Nat) (k : IntKind) (a : Int) : Instr.sameBits n (.int k a) (.int k a) = true := by
  cases n <;> simp [Instr.sameBits]
theorem sameBits_str (n : Nat) (a : ByteArray) : Instr.sameBits n (.string a) (.string a) = true := by
  cases n <;> exact (MapKept.bytes_beq a a).2 rfl

theorem eq1_ok {ρ : Ren} {b : Bool} {x y : SV} {u v : Value} {r : Bool} (h : eq1 b x y = some r) (hx : VR ρ x u) (hy : VR ρ y v) : eqV1 b u v = some r ∧ (r = true → ∀ n, Instr.sameBits n v u = true) := by
  unfold eq1 at h
  cases b
  · dsimp only at h
    split at h
    · rename_i p hp
      split at h
      · rename_i q hq
        split at h
        · rename_i hk
          cases h
          rw [asInt_iff.1 hp, VR.int_iff] at hx
          rw [asInt_iff.1 hq, VR.int_iff] at hy
          have := eqK_iff hk
          rw [hx, hy]
          refine ⟨?_, fun ht n => ?_⟩
          · simp only [eqV1, this, if_true, eqI_eq]; rfl
          · rw [eqI_eq] at ht
            have e : p.2 = q.2 := by simpa using ht
            rw [this, e]; exact sameBits_int _ _ _
        · cases h
      · cases h
    · cases h
  · dsimp only at h
    split at h
    · rename_i p hp
      split at h
      · rename_i q hq
        cases h
        rw [asStr_iff.1 hp, VR.str_iff] at hx
        rw [asStr_iff.1 hq, VR.str_iff] at hy
        rw [hx.1, hy.1]
        refine ⟨?_, fun ht n => ?_⟩
        · simp only [eqV1]; rw [strOf_beq hx.2 hy.2]
        · rw [eqL_iff] at ht
          subst ht; exact sameBits_str _ _
      · cases h
    · cases h

theorem eqN_ok {ρ : Ren} : ∀ {l : List Bool} {xs ys : List SV} {us vs : List Value} {r : Bool}, eqN l xs ys = some r → VRL ρ xs us → VRL ρ ys vs →
    eqVN l us vs = some r ∧ (r = true → us.length = vs.length ∧ ∀ n, (vs.zip us).all (fun p => Instr.sameBits n p.1 p.2) = true)
  | [], [], [], us, vs, r, h, hx, hy => by
    rw [VRL.nil_iff.1 hx, VRL.nil_iff.1 hy]
    cases h
    exact ⟨rfl, fun _ => ⟨rfl, fun _ => rfl⟩⟩
  | b :: l, x :: xs, y :: ys, us, vs, r, h, hx, hy => by
    obtain ⟨u, us, rfl, hu, hus⟩ := VRL.cons_iff.1 hx
    obtain ⟨v, vs, rfl, hv, hvs⟩ := VRL.cons_iff.1 hy
    unfold eqN at h
    split at h
    · rename_i r1 h1
      split at h
      · rename_i q hq
        cases h
        obtain ⟨e1, f1⟩ := eq1_ok h1 hu hv
        obtain ⟨e2, f2⟩ := eqN_ok hq hus hvs
        refine ⟨by simp only [eqVN, e1, e2], fun ht => ?_⟩
        simp only [Bool.and_eq_true] at ht
        obtain ⟨g1, g2⟩ := f2 ht.2
        exact ⟨by simp [g1], fun n => by
          have := g2 n
          simp only [List.zip_cons_cons, List.all_cons, f1 ht.1 n, Bool.true_and]
          exact this⟩
      · cases h
    · cases h
  | [], [], _ :: _, _, _, _, h, _, _ | [], _ :: _, _, _, _, _, h, _, _ | _ :: _, [], _, _, _, _, h, _, _ | _ :: _, _ :: _, [], _, _, _, h, _, _ => by simp [eqN] at h

theorem eqKey_ok {ρ : Ren} {D : KeyD} {x y : SV} {u v : Value} {r : Bool} (h : eqKey D x y = some r) (hx : VR ρ x u) (hy : VR ρ y v) : eqV D u v = some r ∧ (r = true → Instr.sameBits 10000 v u = true) := by
  unfold eqKey at h
  cases D with
  | int => obtain ⟨a, b⟩ := eq1_ok h hx hy; exact ⟨a, fun hr => b hr _⟩
  | str => obtain ⟨a, b⟩ := eq1_ok h hx hy; exact ⟨a, fun hr => b hr _⟩
  | many l =>
    dsimp only at h
    split at h
    · rename_i a ha
      split at h
      · rename_i b hb
        rw [asAgg_iff.1 ha, VR.agg_iff] at hx
        rw [asAgg_iff.1 hb, VR.agg_iff] at hy
        obtain ⟨xs, rfl, hx, _⟩ := hx
        obtain ⟨ys, rfl, hy, _⟩ := hy
        obtain ⟨e, f⟩ := eqN_ok h hx hy
        refine ⟨e, fun hr => ?_⟩
        obtain ⟨g1, g2⟩ := f hr
        show Instr.sameBits (9999 + 1) _ _ = true
        simp only [Instr.sameBits, List.size_toArray, g1, beq_self_eq_true, Bool.true_and]
        exact g2 9999
      · cases h
    · cases h

theorem fit1_ok {ρ : Ren} {b : Bool} {x : SV} {v : Value} (h : fit1 b x = true) (hx : VR ρ x v) : fitV1 b v := by
  unfold fit1 at h
  cases b
  · obtain ⟨p, hp⟩ := Option.isSome_iff_exists.1 h
    rw [asInt_iff.1 hp, VR.int_iff] at hx
    exact ⟨_, _, hx⟩
  · obtain ⟨p, hp⟩ := Option.isSome_iff_exists.1 h
    rw [asStr_iff.1 hp, VR.str_iff] at hx
    exact ⟨_, hx.1⟩
theorem fitN_ok {ρ : Ren} : ∀ {l : List Bool} {xs : List SV} {vs : List Value}, fitN l xs = true → VRL ρ xs vs → fitVN l vs
  | [], [], _, _, hx => VRL.nil_iff.1 hx
  | b :: l, x :: xs, _, h, hx => by
    obtain ⟨v, vs, rfl, hv, hvs⟩ := VRL.cons_iff.1 hx
    simp only [fitN, Bool.and_eq_true] at h
    exact ⟨v, vs, rfl, fit1_ok h.1 hv, fitN_ok h.2 hvs⟩
  | [], _ :: _, _, h, _ | _ :: _, [], _, h, _ => by simp [fitN] at h
theorem fitKey_ok {ρ : Ren} {D : KeyD} {x : SV} {v : Value} (h : fitKey D x = true) (hx : VR ρ x v) : FitV D v := by
  unfold fitKey at h
  cases D with
  | int => exact fit1_ok h hx
  | str => exact fit1_ok h hx
  | many l =>
    dsimp only at h
    split at h
    · rename_i a ha
      rw [asAgg_iff.1 ha, VR.agg_iff] at hx
      obtain ⟨xs, rfl, hx, _⟩ := hx
      exact ⟨xs, rfl, fitN_ok h hx⟩
    · cases h

/-! ### Finding -/
def FindV (D : KeyD) (k : Value) : List MapEntry → Nat → Option (Nat × Value) → Prop
  | [], _, r => r = none
  | e :: es, i, r => (eqV D k e.key = some true ∧ r = some (i, e.val)) ∨ (eqV D k e.key = some false ∧ FindV D k es (i + 1) r)

theorem findAsking_ok {t : Nat} {D : KeyD} (hk : KeyFits P t D) {k : Value} (w : World) : ∀ (es : List MapEntry) (i : Nat) (r : Option (Nat × Value)), FindV D k es i r → (Instr.findAsking t k es i).run P w = .ok r w
  | [], i, r, h => by rw [show r = none from h]; rfl
  | e :: es, i, r, h => by
    unfold Instr.findAsking
    rcases h with ⟨h1, rfl⟩ | ⟨h1, h2⟩
    · simp [hk.equal _ _ _ h1 w]
    · simp [hk.equal _ _ _ h1 w, findAsking_ok hk w es (i + 1) r h2]
theorem findNow_ok {t : Nat} {D : KeyD} (hk : KeyFits P t D) {d : TypeDesc} (hd : P.underlying t = some d) {k : Value} : ∀ (es : List MapEntry) (i : Nat) (r r' : Option (Nat × Value)), FindV D k es i r → Instr.findNow d k es i = some r' → r' = r
  | [], i, r, r', h, hn => by rw [show r = none from h]; simp [Instr.findNow] at hn; exact hn.symm
  | e :: es, i, r, r', h, hn => by
    unfold Instr.findNow at hn
    rcases h with ⟨h1, rfl⟩ | ⟨h1, h2⟩
    · split at hn
      · cases hn; rfl
      · rename_i hs; have := hk.now _ _ _ _ _ hd h1 hs; cases this
      · cases hn
    · split at hn
      · rename_i hs; have := hk.now _ _ _ _ _ hd h1 hs; cases this
      · exact findNow_ok hk hd es (i + 1) r r' h2 hn
      · cases hn
theorem findKey_ok {t : Nat} {D : KeyD} (hk : KeyFits P t D) {k : Value} {es : List MapEntry} {r : Option (Nat × Value)} (h : FindV D k es 0 r) (w : World) : (Instr.findKey t k es).run P w = .ok r w := by
  obtain ⟨d, hd⟩ := hk.desc
  unfold Instr.findKey
  rw [Sem.run_bind, run_underlying hd w, Result.andThen_ok]
  cases hn : Instr.findNow d k es 0 with
  | some r' => rw [findNow_ok hk hd es 0 r r' h hn]; rfl
  | none => exact findAsking_ok hk w es 0 r h

theorem findGo_ok {ρ : Ren} {D : KeyD} {k : SV} {kv : Value} (hk : VR ρ k kv) : ∀ {es : List (SV × SV × Nat)} {ms : List MapEntry} {i : Nat} {r : Option (Nat × SV)}, ERL ρ es ms → findGo D k es i = some r →
    (r = none ∧ FindV D kv ms i none) ∨ ∃ n x e m, r = some (i + n, x) ∧ es[n]? = some e ∧ e.2.1 = x ∧ ms[n]? = some m ∧ VR ρ e.1 m.key ∧ VR ρ x m.val ∧ m.born = e.2.2 ∧ Instr.sameBits 10000 m.key kv = true ∧ FindV D kv ms i (some (i + n, m.val))
  | [], ms, i, r, h, hf => by
    rw [show ms = [] from h]
    cases hf
    exact .inl ⟨rfl, rfl⟩
  | e :: es, ms, i, r, h, hf => by
    obtain ⟨m, ms, rfl, h1, h2, h3, h4⟩ := h
    unfold findGo at hf
    split at hf
    · rename_i he
      cases hf
      obtain ⟨q1, q2⟩ := eqKey_ok he hk h1
      exact .inr ⟨0, e.2.1, e, m, rfl, rfl, rfl, rfl, h1, h2, h3, q2 rfl, .inl ⟨q1, rfl⟩⟩
    · rename_i he
      obtain ⟨q1, _⟩ := eqKey_ok he hk h1
      rcases findGo_ok hk h4 hf with ⟨rfl, hv⟩ | ⟨n, x, e', m', rfl, g1, g2, g3, g4, g5, g6, g7, g8⟩
      · exact .inl ⟨rfl, .inr ⟨q1, hv⟩⟩
      · refine .inr ⟨n + 1, x, e', m', by congr 2; omega, by simpa using g1, g2, by simpa using g3, g4, g5, g6, g7, .inr ⟨q1, ?_⟩⟩
        have : i + (n + 1) = i + 1 + n := by omega
        rw [this]; exact g8
    · cases hf

theorem findS_ok {ρ : Ren} {D : KeyD} {k : SV} {kv : Value} (hk : VR ρ k kv) {es : List (SV × SV × Nat)} {ms : List MapEntry} {r : Option (Nat × SV)} (he : ERL ρ es ms) (h : findS D k es = some r) :
    FitV D kv ∧ ((r = none ∧ FindV D kv ms 0 none) ∨ ∃ n x e m, r = some (n, x) ∧ es[n]? = some e ∧ e.2.1 = x ∧ ms[n]? = some m ∧ VR ρ e.1 m.key ∧ VR ρ x m.val ∧ m.born = e.2.2 ∧ Instr.sameBits 10000 m.key kv = true ∧ FindV D kv ms 0 (some (n, m.val))) := by
  unfold findS at h
  split at h
  · rename_i hf
    refine ⟨fitKey_ok hf hk, ?_⟩
    rcases findGo_ok hk he h with h1 | ⟨n, x, e, m, h1, h2⟩
    · exact .inl h1
    · refine .inr ⟨n, x, e, m, by simpa using h1, ?_⟩
      simpa using h2
  · cases h

/-- the entries of a map, or of none -/
theorem entries_ok {C : Ctx} {ρ : Ren} {s : ST} {w : World} (hok : Ok C ρ s w) {m : SV} {es : List (SV × SV × Nat)} (h : entriesS m s = some es) {u : Value} (hu : VR ρ m u) :
    (u = .map none ∧ es = []) ∨ ∃ r a c, u = .map (some r) ∧ w.heap[r]? = some (.map a c) ∧ ERL ρ es a.toList := by
  unfold entriesS at h
  split at h
  · rename_i j hj
    split at h
    · rename_i p hp
      cases h
      have ej : m = .mp j := by cases m <;> simp [SV.asMp] at hj; rw [hj]
      rw [ej, VR.mp_iff] at hu
      obtain ⟨q, hq, rfl⟩ := hu
      obtain ⟨a, h1, h2⟩ := hok.mapAt hq hp
      exact .inr ⟨_, a, _, rfl, h1, h2⟩
    · cases h
  · split at h
    · cases h
      exact .inl ⟨VR.nilm_iff.1 hu, rfl⟩
    · cases h

theorem asMp_iff {x : SV} {j : Nat} : x.asMp = some j ↔ x = .mp j := by cases x <;> simp [SV.asMp]

/-! ### Maps whose order is not known -/
def kvOf (m : MapEntry) : Value × Value := (m.key, m.val)
def MatV (D : KeyD) (k : Value) : List (Value × Value) → List Value → Prop
  | [], r => r = []
  | e :: es, r => (eqV D k e.1 = some true ∧ ∃ r', r = e.2 :: r' ∧ MatV D k es r') ∨ (eqV D k e.1 = some false ∧ MatV D k es r)
theorem MatV.perm {D : KeyD} {k : Value} {es es' : List (Value × Value)} (h : es.Perm es') : ∀ {r : List Value}, MatV D k es r → ∃ r', MatV D k es' r' ∧ r.Perm r' := by
  induction h with
  | nil => intro r hr; exact ⟨r, hr, .refl _⟩
  | cons x h ih =>
    intro r hr
    rcases hr with ⟨h1, r1, rfl, h2⟩ | ⟨h1, h2⟩
    · obtain ⟨r2, h3, h4⟩ := ih h2
      exact ⟨x.2 :: r2, .inl ⟨h1, r2, rfl, h3⟩, h4.cons _⟩
    · obtain ⟨r2, h3, h4⟩ := ih h2
      exact ⟨r2, .inr ⟨h1, h3⟩, h4⟩
  | swap x y l =>
    intro r hr
    rcases hr with ⟨h1, r1, rfl, ⟨h2, r2, rfl, h3⟩ | ⟨h2, h3⟩⟩ | ⟨h1, ⟨h2, r2, rfl, h3⟩ | ⟨h2, h3⟩⟩
    · exact ⟨_, .inl ⟨h2, _, rfl, .inl ⟨h1, _, rfl, h3⟩⟩, .swap _ _ _⟩
    · exact ⟨_, .inr ⟨h2, .inl ⟨h1, _, rfl, h3⟩⟩, .refl _⟩
    · exact ⟨_, .inl ⟨h2, _, rfl, .inr ⟨h1, h3⟩⟩, .refl _⟩
    · exact ⟨_, .inr ⟨h2, .inr ⟨h1, h3⟩⟩, .refl _⟩
  | trans _ _ ih1 ih2 =>
    intro r hr
    obtain ⟨r1, h1, h2⟩ := ih1 hr
    obtain ⟨r2, h3, h4⟩ := ih2 h1
    exact ⟨r2, h3, h2.trans h4⟩
theorem MatV.none {D : KeyD} {k : Value} : ∀ {ms : List MapEntry} {i : Nat}, MatV D k (ms.map kvOf) [] → FindV D k ms i none
  | [], _, _ => rfl
  | _ :: _, _, h => by
    rcases h with ⟨_, r, h, _⟩ | ⟨h1, h2⟩
    · cases h
    · exact .inr ⟨h1, h2.none⟩
theorem MatV.some {D : KeyD} {k v : Value} {r : List Value} : ∀ {ms : List MapEntry} {i : Nat}, MatV D k (ms.map kvOf) (v :: r) → ∃ n, FindV D k ms i (some (n, v))
  | [], _, h => by cases h
  | m :: ms, i, h => by
    rcases h with ⟨h1, r', h2, _⟩ | ⟨h1, h2⟩
    · injection h2 with h3 h4
      exact ⟨i, .inl ⟨h1, by rw [h3]; rfl⟩⟩
    · obtain ⟨n, h3⟩ := h2.some (i := i + 1)
      exact ⟨n, .inr ⟨h1, h3⟩⟩
theorem matches_ok {ρ : Ren} {D : KeyD} {k : SV} {kv : Value} (hk : VR ρ k kv) : ∀ {es : List (SV × SV × Nat)} {ms : List MapEntry} {r : List SV}, ERL ρ es ms → matchesS D k es = some r → ∃ vs, MatV D kv (ms.map kvOf) vs ∧ VRL ρ r vs
  | [], ms, r, h, hf => by
    rw [show ms = [] from h]
    cases hf
    exact ⟨[], rfl, .nil⟩
  | e :: es, ms, r, h, hf => by
    obtain ⟨m, ms, rfl, h1, h2, h3, h4⟩ := h
    unfold matchesS at hf
    split at hf
    · rename_i he
      obtain ⟨q1, _⟩ := eqKey_ok he hk h1
      split at hf
      · rename_i r1 hr1
        cases hf
        obtain ⟨vs, g1, g2⟩ := matches_ok hk h4 hr1
        exact ⟨m.val :: vs, .inl ⟨q1, vs, rfl, g1⟩, .cons h2 g2⟩
      · cases hf
    · rename_i he
      obtain ⟨q1, _⟩ := eqKey_ok he hk h1
      obtain ⟨vs, g1, g2⟩ := matches_ok hk h4 hf
      exact ⟨vs, .inr ⟨q1, g1⟩, g2⟩
    · cases hf

theorem lookupU_ok {C : Ctx} {ρ : Ren} {s : ST} {w : World} (hok : Ok C ρ s w) {D : KeyD} {z m k v : SV} {ok : Bool} {um uk zv : Value} (h : lookupU D z ok m k s = some v) (hm : VR ρ m um) (hk : VR ρ k uk) (hz : VR ρ z zv) :
    ∃ r a c, um = .map (some r) ∧ w.heap[r]? = some (.map a c) ∧ FitV D uk ∧ ∃ (rv : Option (Nat × Value)) (p : Value × Bool), FindV D uk a.toList 0 rv ∧
      VR ρ v (if ok then .tuple #[p.1, .bool p.2] else p.1) ∧ (match rv with | some q => (q.2, true) = p | none => (zv, false) = p) := by
  unfold lookupU at h
  split at h
  · rename_i j hj
    split at h
    · rename_i es hes
      split at h
      · rename_i hf
        rw [asMp_iff.1 hj, VR.mp_iff] at hm
        obtain ⟨q, hq, rfl⟩ := hm
        have e := asMapU_iff.1 hes
        obtain ⟨o, ho, hr⟩ := hok.obj j q hq (by rw [e]; rfl)
        rw [e] at hr
        obtain ⟨a, c, ms, rfl, hms, hp⟩ := hr
        refine ⟨_, a, c, rfl, ho, fitKey_ok hf hk, ?_⟩
        split at h
        · rename_i hmt
          cases h
          obtain ⟨vs, g1, g2⟩ := matches_ok hk hms hmt
          rw [VRL.nil_iff.1 g2] at g1
          obtain ⟨r', g3, g4⟩ := MatV.perm (k := uk) hp g1
          have : r' = [] := by simpa using g4.symm.eq_nil
          subst this
          refine ⟨none, (zv, false), MatV.none g3, ?_, rfl⟩
          cases ok
          · exact hz
          · exact VR.tup_iff.2 ⟨_, rfl, .cons hz (.cons (VR.bool_iff.2 rfl) .nil)⟩
        · rename_i x hmt
          cases h
          obtain ⟨vs, g1, g2⟩ := matches_ok hk hms hmt
          obtain ⟨y, rfl, hy⟩ := g2.one
          obtain ⟨r', g3, g4⟩ := MatV.perm (k := uk) hp g1
          have : r' = [y] := List.perm_singleton.1 g4.symm
          subst this
          obtain ⟨n, g5⟩ := MatV.some (i := 0) g3
          refine ⟨some (n, y), (y, true), g5, ?_, rfl⟩
          cases ok
          · exact hy
          · exact VR.tup_iff.2 ⟨_, rfl, .cons hy (.cons (VR.bool_iff.2 rfl) .nil)⟩
        · cases h
      · cases h
    · cases h
  · cases h

theorem sound_lookup {t : Nat} {x y : Operand} {ok : Bool} (hE : EnvOk P E) (hK : KtOk P E) (ho : o.op = .lookup t x y ok) : Sound P K o (opB E o) := by
  unfold opB
  rw [ho]
  dsimp only
  cases hu : E.under t with
  | none => exact sound_no
  | some d =>
  have hu' := hE.under hu
  cases d <;> dsimp only <;> first | exact sound_no | skip
  rename_i kt e
  cases hkd : E.kd kt with
  | none => exact sound_no
  | some D =>
  dsimp only
  cases hz : E.zero e with
  | none => exact sound_no
  | some z =>
  have hfit := kd_ok hE hK hkd
  obtain ⟨zi, zv, hzi, hzz, hzr⟩ := hE.zero hz
  refine sound_readL fun C ρ s w a l v h hx hok => ?_
  split at h
  · rename_i sm sk
    rw [ho] at hx
    obtain ⟨vm, vk, e1, rm, rk⟩ := hx.two
    simp [Op.operands] at e1
    obtain ⟨rfl, rfl⟩ := e1
    unfold lookupS at h
    split at h
    · rename_i es hes
      have main : ∀ ms : List MapEntry, ERL ρ es ms → ∃ (rv : Option (Nat × Value)) (p : Value × Bool), FitV D (a.eval y) ∧ FindV D (a.eval y) ms 0 rv ∧
          VR ρ v (if ok then .tuple #[p.1, .bool p.2] else p.1) ∧ (match rv with | some q => (q.2, true) = p | none => (zv, false) = p) := by
        intro ms hms
        split at h
        · rename_i q hq
          obtain ⟨hF, ⟨h1, _⟩ | ⟨n, sx, e2, m, h1, h2, h3, h4, h5, h6, h7, h8, h9⟩⟩ := findS_ok rk hms hq
          · cases h1
          · cases h1
            cases h
            refine ⟨_, (m.val, true), hF, h9, ?_, rfl⟩
            cases ok
            · exact h6
            · exact VR.tup_iff.2 ⟨_, rfl, .cons h6 (.cons (VR.bool_iff.2 rfl) .nil)⟩
        · rename_i hq
          obtain ⟨hF, ⟨h1, h2⟩ | ⟨n, sx, e2, m, h1, _⟩⟩ := findS_ok rk hms hq
          · cases h
            refine ⟨none, (zv, false), hF, h2, ?_, rfl⟩
            cases ok
            · exact hzr ρ
            · exact VR.tup_iff.2 ⟨_, rfl, .cons (hzr ρ) (.cons (VR.bool_iff.2 rfl) .nil)⟩
          · cases h1
        · cases h
      rcases entries_ok hok hes rm with ⟨eu, rfl⟩ | ⟨r, arr, c, eu, hb, hms⟩
      · obtain ⟨rv, p, hF, hfv, hr, hp⟩ := main [] rfl
        refine ⟨_, ?_, hr⟩
        have hn : rv = none := hfv
        subst hn
        cases hp
        simp [execOp, ho, eu, Instr.lookup, run_underlying hu', hfit.check _ hF, findKey_ok hfit hfv, run_zeroValue' hzi hzz]
      · obtain ⟨rv, p, hF, hfv, hr, hp⟩ := main arr.toList hms
        refine ⟨_, ?_, hr⟩
        cases rv with
        | none =>
          cases hp
          simp [execOp, ho, eu, Instr.lookup, run_underlying hu', get_map hb, hfit.check _ hF, findKey_ok hfit hfv, run_zeroValue' hzi hzz]
        | some q =>
          cases hp
          simp [execOp, ho, eu, Instr.lookup, run_underlying hu', get_map hb, hfit.check _ hF, findKey_ok hfit hfv]
    · obtain ⟨r, arr, c, eu, hb, hF, rv, p, hfv, hr, hp⟩ := lookupU_ok hok h rm rk (hzr ρ)
      refine ⟨_, ?_, hr⟩
      cases rv with
      | none =>
        cases hp
        simp [execOp, ho, eu, Instr.lookup, run_underlying hu', get_map hb, hfit.check _ hF, findKey_ok hfit hfv, run_zeroValue' hzi hzz]
      | some q =>
        cases hp
        simp [execOp, ho, eu, Instr.lookup, run_underlying hu', get_map hb, hfit.check _ hF, findKey_ok hfit hfv]
  · cases h

/-! ### Writing -/
theorem ERL.length {ρ : Ren} : ∀ {es : List (SV × SV × Nat)} {ms : List MapEntry}, ERL ρ es ms → ms.length = es.length
  | [], _, h => by rw [show _ = [] from h]; rfl
  | _ :: es, _, h => by obtain ⟨m, ms, rfl, _, _, _, h4⟩ := h; simp [ERL.length h4]
theorem ERL.get {ρ : Ren} : ∀ {es : List (SV × SV × Nat)} {ms : List MapEntry}, ERL ρ es ms → ∀ (n : Nat) (e : SV × SV × Nat), es[n]? = some e → ∃ m, ms[n]? = some m ∧ VR ρ e.1 m.key ∧ VR ρ e.2.1 m.val ∧ m.born = e.2.2
  | [], _, _, n, e, he => by simp at he
  | e0 :: es, _, h, n, e, he => by
    obtain ⟨m, ms, rfl, h1, h2, h3, h4⟩ := h
    cases n with
    | zero => simp at he; subst he; exact ⟨m, rfl, h1, h2, h3⟩
    | succ n => simp at he; obtain ⟨m', q, r⟩ := h4.get n e he; exact ⟨m', by simpa using q, r⟩
theorem ERL.set {ρ : Ren} {k v : SV} {kv vv : Value} (hk : VR ρ k kv) (hv : VR ρ v vv) : ∀ {es : List (SV × SV × Nat)} {ms : List MapEntry}, ERL ρ es ms → ∀ n, ERL ρ (setVal k v es n) (ms.modify n fun e => { e with key := kv, val := vv })
  | [], _, h, n => by rw [show _ = [] from h]; cases n <;> simp [setVal, ERL]
  | e :: es, _, h, 0 => by
    obtain ⟨m, ms, rfl, h1, h2, h3, h4⟩ := h
    exact ⟨_, ms, rfl, hk, hv, h3, h4⟩
  | e :: es, _, h, n + 1 => by
    obtain ⟨m, ms, rfl, h1, h2, h3, h4⟩ := h
    exact ⟨m, _, rfl, h1, h2, h3, h4.set hk hv n⟩
theorem ERL.drop {ρ : Ren} : ∀ {es : List (SV × SV × Nat)} {ms : List MapEntry}, ERL ρ es ms → ∀ n, ERL ρ (dropAt es n) (ms.eraseIdx n)
  | [], _, h, n => by rw [show _ = [] from h]; simp [dropAt, ERL]
  | e :: es, _, h, 0 => by
    obtain ⟨m, ms, rfl, h1, h2, h3, h4⟩ := h
    exact h4
  | e :: es, _, h, n + 1 => by
    obtain ⟨m, ms, rfl, h1, h2, h3, h4⟩ := h
    exact ⟨m, _, rfl, h1, h2, h3, h4.drop n⟩
theorem ERL.push {ρ : Ren} {k v : SV} {kv vv : Value} (hk : VR ρ k kv) (hv : VR ρ v vv) (c : Nat) : ∀ {es : List (SV × SV × Nat)} {ms : List MapEntry}, ERL ρ es ms → ERL ρ (es ++ [(k, v, c)]) (ms ++ [{ key := kv, val := vv, born := c }])
  | [], _, h => by rw [show _ = [] from h]; exact ⟨_, [], rfl, hk, hv, rfl, rfl⟩
  | e :: es, _, h => by
    obtain ⟨m, ms, rfl, h1, h2, h3, h4⟩ := h
    exact ⟨m, _, rfl, h1, h2, h3, h4.push hk hv c⟩

/-- a map is written -/
theorem Ok.setMap {C : Ctx} {ρ : Ren} {s s' : ST} {w : World} (hok : Ok C ρ s w) {j : Nat} {p : Loc} {m : List (SV × SV × Nat) × Nat} (hp : ρ j = some p) (hm : s.mapOf j = some m) {es : List (SV × SV × Nat)} {c : Nat}
    (hput : s.put j (.map es c) = some s') {a : Array MapEntry} (he : ERL ρ es a.toList) : Ok C ρ s' { w with heap := w.heap.setIfInBounds p.blk (.map a c) } ∧ Ext s s' ρ ρ := by
  have hj : j < 32768 := Nat.lt_of_lt_of_le (hok.dom j p hp) hok.bound
  have hext := Ext.put hok hput hj
  obtain ⟨rfl, _⟩ := put_ok hput
  exact ⟨hok.write hp (by rw [asMap_iff.1 hm]; rfl) ⟨a, rfl, he⟩ rfl, hext⟩

theorem keyThatStays_ok {x y : Value} (h : Instr.sameBits 10000 x y = true) (w : World) : (Instr.keyThatStays x y).run P w = .ok y w := by
  unfold Instr.keyThatStays
  rw [h]
  rfl

theorem update_ok {D : KeyD} {t kt et : Nat} (hu : P.underlying t = some (.map kt et)) (hfit : KeyFits P kt D) {C : Ctx} {ρ : Ren} {s s' : ST} {w : World} (hok : Ok C ρ s w) {m k v : SV} (h : updateS D m k v s = some s')
    {um uk uv : Value} (hm : VR ρ m um) (hk : VR ρ k uk) (hv : VR ρ v uv) : ∃ w', (Instr.mapUpdate t um uk uv).run P w = .ok () w' ∧ Ok C ρ s' w' ∧ Ext s s' ρ ρ := by
  unfold updateS at h
  split at h
  · rename_i j hj
    rw [asMp_iff.1 hj, VR.mp_iff] at hm
    obtain ⟨q, hq, rfl⟩ := hm
    split at h
    · rename_i p hp
      obtain ⟨a, hb, he⟩ := hok.mapAt hq hp
      split at h
      · rename_i r hr
        obtain ⟨hF, ⟨h1, _⟩ | ⟨n, sx, e2, me, h1, h2, h3, h4, h5, h6, h7, h8, h9⟩⟩ := findS_ok hk he hr
        · cases h1
        · cases h1
          obtain ⟨h10, h11⟩ := hok.setMap hq hp h (a := a.modify n fun e => { e with key := uk, val := uv }) (by rw [Array.toList_modify]; exact he.set hk hv n)
          refine ⟨_, ?_, h10, h11⟩
          have h4' : a[n]? = some me := by rw [← Array.getElem?_toList]; exact h4
          simp [Instr.mapUpdate, run_underlying hu, get_map hb, hfit.check _ hF, findKey_ok hfit h9, h4', keyThatStays_ok h8, set_map _ hb]
      · rename_i hr
        obtain ⟨hF, ⟨h1, h2⟩ | ⟨n, sx, e2, me, h1, _⟩⟩ := findS_ok hk he hr
        · obtain ⟨h10, h11⟩ := hok.setMap hq hp h (a := a.push { key := uk, val := uv, born := p.2 }) (by rw [Array.toList_push]; exact he.push hk hv _)
          refine ⟨_, ?_, h10, h11⟩
          simp [Instr.mapUpdate, run_underlying hu, get_map hb, hfit.check _ hF, findKey_ok hfit h2, set_map _ hb]
        · cases h1
      · cases h
    · cases h
  · cases h

theorem sound_upd {t : Nat} {x y z : Operand} (hE : EnvOk P E) (hK : KtOk P E) (ho : o.op = .mapUpdate t x y z ∨ o.op = .insert t x y z) : Sound P K o (updB E t) := by
  unfold updB
  cases hu : E.under t with
  | none => exact sound_no
  | some d =>
  have hu' := hE.under hu
  cases d <;> dsimp only <;> first | exact sound_no | skip
  rename_i kt e
  cases hkd : E.kd kt with
  | none => exact sound_no
  | some D =>
  refine sound_eff fun C ρ s s' w a l v h hx hok => ?_
  split at h
  · rename_i sm sk sv
    obtain ⟨h2, rfl⟩ := skip1_inv h
    clear h
    have h := h2
    have hx' : VRL ρ [sm, sk, sv] [a.eval x, a.eval y, a.eval z] := by
      rcases ho with ho | ho <;> (rw [ho] at hx; simpa [Op.operands] using hx)
    obtain ⟨vm, vk, vv, e1, rm, rk, rv⟩ := hx'.three
    simp at e1
    obtain ⟨rfl, rfl, rfl⟩ := e1
    obtain ⟨w', h1, h2, h3⟩ := update_ok hu' (kd_ok hE hK hkd) hok h rm rk rv
    refine ⟨ρ, undef, w', .inr ⟨?_, rfl⟩, h3, VR.undef ρ, h2⟩
    rcases ho with ho | ho <;> simp [execOp, ho, h1]
  · cases h

theorem sound_mapEntry {t : Nat} {x y : Operand} (hE : EnvOk P E) (hK : KtOk P E) (ho : o.op = .mapEntry t x y) : Sound P K o (opB E o) := by
  unfold opB
  rw [ho]
  dsimp only
  cases hu : E.under t with
  | none => exact sound_no
  | some d =>
  have hu' := hE.under hu
  cases d <;> dsimp only <;> first | exact sound_no | skip
  rename_i kt e
  cases hkd : E.kd kt with
  | none => exact sound_no
  | some D =>
  dsimp only
  cases hz : E.zero e with
  | none => exact sound_no
  | some z =>
  have hfit := kd_ok hE hK hkd
  obtain ⟨zi, zv, hzi, hzz, hzr⟩ := hE.zero hz
  refine sound_eff fun C ρ s s' w a l v h hx hok => ?_
  split at h
  · rename_i sm sk
    rw [ho] at hx
    obtain ⟨vm, vk, e1, rm, rk⟩ := hx.two
    simp [Op.operands] at e1
    obtain ⟨rfl, rfl⟩ := e1
    unfold entryAt at h
    split at h
    · rename_i j hj
      rw [asMp_iff.1 hj, VR.mp_iff] at rm
      obtain ⟨q, hq, em⟩ := rm
      split at h
      · rename_i p hp
        obtain ⟨arr, hb, he⟩ := hok.mapAt hq hp
        split at h
        · rename_i r hr
          obtain ⟨hF, ⟨h1, _⟩ | ⟨n, sx, e2, me, h1, h2, h3, h4, h5, h6, h7, h8, h9⟩⟩ := findS_ok rk he hr
          · cases h1
          · cases h1
            dsimp only at h
            rw [h2] at h
            dsimp only at h
            split at h
            · rename_i s1 hput
              cases h
              have hmod : arr.toList.modify n (fun e => { e with key := a.eval y }) = arr.toList.modify n (fun e => { e with key := a.eval y, val := me.val }) := by
                apply List.ext_getElem?
                intro i
                rw [List.getElem?_modify, List.getElem?_modify]
                by_cases hi : n = i
                · subst hi; simp [h4]
                · simp [hi]
              obtain ⟨h10, h11⟩ := hok.setMap hq hp hput (a := arr.modify n fun e => { e with key := a.eval y }) (by rw [Array.toList_modify, hmod]; exact he.set rk h6 n)
              refine ⟨ρ, .tuple #[me.val, goInt me.born], _, .inl ?_, h11, VR.tup_iff.2 ⟨_, rfl, .cons h6 (.cons (VR.int_iff.2 (by rw [h7]; rfl)) .nil)⟩, h10⟩
              have h4' : arr[n]? = some me := by rw [← Array.getElem?_toList]; exact h4
              simp [execOp, ho, em, Instr.mapEntry, run_underlying hu', get_map hb, hfit.check _ hF, findKey_ok hfit h9, h4', keyThatStays_ok h8, set_map _ hb]
            · cases h
        · rename_i hr
          obtain ⟨hF, ⟨h1, h2⟩ | ⟨n, sx, e2, me, h1, _⟩⟩ := findS_ok rk he hr
          · split at h
            · rename_i s1 hput
              cases h
              obtain ⟨h10, h11⟩ := hok.setMap hq hp hput (a := arr.push { key := a.eval y, val := zv, born := p.2 }) (by rw [Array.toList_push]; exact he.push rk (hzr ρ) _)
              refine ⟨ρ, .tuple #[zv, goInt p.2], _, .inl ?_, h11, VR.tup_iff.2 ⟨_, rfl, .cons (hzr ρ) (.cons (VR.int_iff.2 rfl) .nil)⟩, h10⟩
              simp [execOp, ho, em, Instr.mapEntry, run_underlying hu', get_map hb, hfit.check _ hF, findKey_ok hfit h2, run_zeroValue' hzi hzz, set_map _ hb]
            · cases h
          · cases h1
        · cases h
      · cases h
    · cases h
  · cases h

theorem findIdx_ok {ρ : Ren} {b : Nat} : ∀ {es : List (SV × SV × Nat)} {ms : List MapEntry}, ERL ρ es ms → ms.findIdx? (fun e => (e.born : Int) == (b : Int)) = es.findIdx? (fun e => Nat.beq e.2.2 b)
  | [], _, h => by rw [show _ = [] from h]; rfl
  | e :: es, _, h => by
    obtain ⟨m, ms, rfl, h1, h2, h3, h4⟩ := h
    rw [List.findIdx?_cons, List.findIdx?_cons, findIdx_ok h4]
    have : ((m.born : Int) == (b : Int)) = Nat.beq e.2.2 b := by
      rw [h3, Bool.eq_iff_iff]; simp [Nat.beq_eq]; omega
    rw [this]

theorem sound_entryStore {t : Nat} {x y z : Operand} (ho : o.op = .entryStore t x y z) : Sound P K o (opB E o) := by
  unfold opB
  rw [ho]
  refine sound_eff fun C ρ s s' w a l v h hx hok => ?_
  split at h
  · rename_i j k b sv
    rw [ho] at hx
    obtain ⟨vm, vk, vv, e1, rm, rk, rv⟩ := hx.three
    simp [Op.operands] at e1
    obtain ⟨rfl, rfl, rfl⟩ := e1
    rw [VR.mp_iff] at rm
    obtain ⟨q, hq, em⟩ := rm
    have ek := VR.int_iff.1 rk
    split at h
    · rename_i es c hp
      obtain ⟨arr, hb, he⟩ := hok.mapAt hq hp
      split at h
      · rename_i i hi
        split at h
        · rename_i e2 he2
          obtain ⟨h2, rfl⟩ := skip1_inv h
          clear h
          have h := h2
          obtain ⟨me, hme, r1, r2, r3⟩ := he.get i e2 he2
          have hmod : arr.toList.modify i (fun e => { e with val := a.eval z }) = arr.toList.modify i (fun e => { e with key := me.key, val := a.eval z }) := by
            apply List.ext_getElem?
            intro n
            rw [List.getElem?_modify, List.getElem?_modify]
            by_cases hn : i = n
            · subst hn; simp [hme]
            · simp [hn]
          obtain ⟨h10, h11⟩ := hok.setMap hq hp h (a := arr.modify i fun e => { e with val := a.eval z }) (by rw [Array.toList_modify, hmod]; exact he.set r1 rv i)
          refine ⟨ρ, undef, _, .inr ⟨?_, rfl⟩, h11, VR.undef ρ, h10⟩
          have hfi : arr.findIdx? (fun e => (e.born : Int) == (b : Int)) = some i := by
            rw [← hi, ← findIdx_ok he, ← List.findIdx?_toArray]
          have ek' : a.eval y = .int k (b : Int) := ek
          simp only [execOp, ho]
          simp [em, ek', Instr.entryStore, get_map hb, asInt, asIntOf, hfi, set_map _ hb]
        · cases h
      · cases h
    · cases h
  · cases h

end
end Go.Exe
namespace Go.Exe
open Go
section
variable {P : Program} {K : CallF} {o : Oper} {E : Env}

/-- a call of one of the language's own functions, by its operands -/
theorem exec_builtin {c : Call} {b : Builtin} (ho : o.op = .call c) (hc : c.callee = .builtin b) (a : Act) (l : List Value) (h : (o.op.operands.toList.map a.eval) = l) :
    execOp a.eval o = builtin b c.argTypes o.type (c.args.map fun | .const _ => true | _ => false) l.toArray := by
  have hargs : c.args.map a.eval = l.toArray := by
    apply Array.ext'
    rw [← h, ho]
    simp [Op.operands, Call.operands, hc]
  simp only [execOp, ho, resolve, hc, hargs]
  rfl

theorem foldM_int {f : Value → Value → Sem Value} {g : SV → SV → Option SV} (hfg : ∀ x y z, g x y = some z → ∀ ρ u v, VR ρ x u → VR ρ y v → ∃ t, (∀ w : World, (f u v).run P w = .ok t w) ∧ VR ρ z t) {ρ : Ren} :
    ∀ {l : List SV} {vs : List Value} {x z : SV} {u : Value}, foldS g x l = some z → VR ρ x u → VRL ρ l vs → ∃ t, (∀ w : World, (vs.foldlM f u).run P w = .ok t w) ∧ VR ρ z t
  | [], vs, x, z, u, h, hx, hl => by
    rw [VRL.nil_iff.1 hl]
    cases h
    exact ⟨u, fun _ => rfl, hx⟩
  | y :: l, vs, x, z, u, h, hx, hl => by
    obtain ⟨v, vs, rfl, hy, hl⟩ := VRL.cons_iff.1 hl
    unfold foldS at h
    split at h
    · rename_i q hq
      obtain ⟨t, ht, rt⟩ := hfg _ _ _ hq ρ u v hx hy
      obtain ⟨r, hr, rr⟩ := foldM_int hfg h rt hl
      refine ⟨r, fun w => ?_, rr⟩
      rw [List.foldlM_cons, Sem.run_bind, ht w, Result.andThen_ok, hr w]
    · cases h

theorem minS_ok (x y z : SV) (h : minS x y = some z) (ρ : Ren) (u v : Value) (hx : VR ρ x u) (hy : VR ρ y v) : ∃ t, (∀ w : World, (Builtin.min2 u v).run P w = .ok t w) ∧ VR ρ z t := by
  unfold minS at h
  split at h
  · rename_i k a l b
    cases h
    rw [VR.int_iff] at hx hy
    subst hx hy
    refine ⟨.int k (if b < a then b else a), fun w => rfl, VR.int_iff.2 ?_⟩
    congr 1
    rw [ltI_eq]
    by_cases hh : b < a <;> simp [hh]
  · cases h
theorem maxS_ok (x y z : SV) (h : maxS x y = some z) (ρ : Ren) (u v : Value) (hx : VR ρ x u) (hy : VR ρ y v) : ∃ t, (∀ w : World, (Builtin.max2 u v).run P w = .ok t w) ∧ VR ρ z t := by
  unfold maxS at h
  split at h
  · rename_i k a l b
    cases h
    rw [VR.int_iff] at hx hy
    subst hx hy
    refine ⟨.int k (if b > a then b else a), fun w => rfl, VR.int_iff.2 ?_⟩
    congr 1
    rw [ltI_eq]
    by_cases hh : a < b <;> simp [hh]
  · cases h

theorem VRL.arr {ρ : Ren} {l : List SV} {a : Act} (h : VRL ρ l (o.op.operands.toList.map a.eval)) : ∃ vs, o.op.operands.toList.map a.eval = vs ∧ VRL ρ l vs := ⟨_, rfl, h⟩

theorem lenSl_ok {ρ : Ren} {x : SV} {m : Nat} (h : lenSl x = some m) {u : Value} (hx : VR ρ x u) : ∃ ad c, u = .slice ad m c := by
  unfold lenSl at h
  split at h
  · rename_i p hp
    cases h
    rcases asSl_iff.1 hp with ⟨_, e⟩ | ⟨_, e⟩
    · rw [e, VR.sl_iff] at hx; obtain ⟨q, _, rfl⟩ := hx; exact ⟨_, _, rfl⟩
    · rw [e, VR.sx_iff] at hx; obtain ⟨q, a, c, _, rfl, _⟩ := hx; exact ⟨_, _, rfl⟩
  · split at h
    · rename_i hn
      cases h
      rw [isNils_iff.1 hn, VR.nils_iff] at hx
      exact ⟨none, 0, hx⟩
    · cases h

theorem lenSl_val {ρ : Ren} {x : SV} {u : Value} {n : Nat} (h : lenSl x = some n) (hx : VR ρ x u) : ∃ d c, u = .slice d n c := by
  unfold lenSl at h
  cases x <;> simp [SV.asSl, SV.isNils] at h
  · rw [VR.nils_iff] at hx
    subst h
    exact ⟨_, _, hx⟩
  · rw [VR.sl_iff] at hx
    obtain ⟨q, _, rfl⟩ := hx
    subst h
    exact ⟨_, _, rfl⟩
  · rw [VR.sx_iff] at hx
    obtain ⟨q, ad, c, _, rfl, _⟩ := hx
    subst h
    exact ⟨_, _, rfl⟩

theorem sound_builtin {c : Call} {b : Builtin} (hE : EnvOk P E) (hK : KtOk P E) (ho : o.op = .call c) (hc : c.callee = .builtin b) : Sound P K o (builtinB E b c.argTypes.toList) := by
  cases b <;> unfold builtinB <;> dsimp only <;> first | exact sound_no | skip
  case append =>
    split
    · rename_i t t' hts
      have hat : c.argTypes = #[t, t'] := Array.ext' hts
      cases hu : E.under t with
      | none => exact sound_no
      | some d =>
      have hu' := hE.under hu
      cases d <;> dsimp only <;> first | exact sound_no | skip
      rename_i e
      cases he : E.elem e with
      | none => exact sound_no
      | some q =>
      obtain ⟨z0, zv⟩ := q
      cases z0 with
      | zero => exact sound_no
      | succ z =>
      dsimp only
      cases hu2 : E.under t' with
      | none => exact sound_no
      | some d2 =>
      have hu2' := hE.under hu2
      cases d2 <;> dsimp only <;> first | exact sound_no | skip
      · -- a number of noughts
        rename_i kn
        refine sound_eff fun C ρ s s' w a l v h hx hok => ?_
        split at h
        · rename_i y
          split at h
          · rename_i k n hn
            split at h
            · rename_i hb
              simp only [Bool.and_eq_true] at hb
              have hb1 := Nat.le_of_ble_eq_true hb.1
              have hb2 := Nat.le_of_ble_eq_true hb.2
              obtain ⟨v1, v2, e1, r1, r2⟩ := hx.two
              rw [VR.nils_iff] at r1
              rw [asInt_iff.1 hn, VR.int_iff] at r2
              subst r1 r2
              obtain ⟨i, zval, hi, hz, hsz, hzl, hby, hcc⟩ := elem_ok hE he
              obtain ⟨hc1, hc2⟩ := hcc ρ
              have hzs : zval.cells.size = z + 1 := by have := hc1.length; simp at this; omega
              have hrun := Lib.run_append_nil_zeros w t t' o.type e i zval k kn hu' hu2' hi hz n (by omega) (by omega) (by omega) (by
                have : n * i.bytes ≤ 65536 * 1048576 := Nat.mul_le_mul hb2 hby
                omega)
              have hr := range_zeros zval.cells n (by omega)
              have e2 : Builtin.zeroCells zval.cells n = ⟨repV zval.cells.toList n⟩ := hr
              rw [e2] at hrun
              have hrep := hc1.rep n
              obtain ⟨n', rfl⟩ : ∃ n', n = n' + 1 := ⟨n - 1, by omega⟩
              have h' : s.new (.sx s.next 0 (0 + (n' + 1)) (z + 1)) (.cells (Nat.mul 2 e) ([] ++ repL zv (n' + 1))) = some (v, s') := by simpa using h
              obtain ⟨ρ', w', v', rfl, rfl, h2, h3, h4⟩ := grow_cells (e := e) hok h' .nil hrep (by simp) (repV_one hc2 _) (by simp) (by rw [repV_length]; simp [hzs]) hzs 0
              refine ⟨ρ', _, _, .inl ?_, h2, h3, h4⟩
              rw [exec_builtin ho hc a _ e1]
              simp only [builtin, hat]
              simp only [List.nil_append, Nat.zero_add]
              rw [Sem.run_bind]
              have h5 : (Builtin.append_ #[t, t'] o.type [Value.slice none 0 0, .int k ((n' + 1 : Nat) : Int)].toArray).run P w = _ := hrun
              have h6 : (Value.int k (Int.ofNat (n' + 1))) = .int k ((n' + 1 : Nat) : Int) := rfl
              rw [h6, h5]
              rfl
            · cases h
          · cases h
        · cases h
      · -- a string
        split
        · refine sound_eff fun C ρ s s' w a l v h hx hok => ?_
          split at h
          · rename_i x y
            split at h
            · rename_i b hb
              obtain ⟨v1, v2, e1, r1, r2⟩ := hx.two
              rw [asStr_iff.1 hb, VR.str_iff] at r2
              obtain ⟨rfl, hlt⟩ := r2
              rw [lenL_eq] at h
              have happ : App P ρ w 1 b.length (some (b.map fun c => .int .u8 (.ofNat c))) t' (.string (strOf b)) := by
                refine ⟨.inr hu2', fun w' => by simp [Builtin.lenOf, strOf_size], fun w' => ?_, ?_⟩
                · show Result.ok (((strOf b).extract 0 0).data.map fun b => Value.int .u8 b.toNat) w' = _
                  congr 1
                  rw [strOf_extract]
                  apply Array.ext'
                  simp [strOf]
                · rintro new hnew
                  cases hnew
                  refine ⟨b.map fun n => .int .u8 ((n : Nat) : Int), ?_, ?_, by simp, fun w' _ => ?_⟩
                  · clear e1 h hlt hb
                    induction b with
                    | nil => exact .nil
                    | cons x b ih => exact .cons (VR.int_iff.2 rfl) ih
                  · intro v hv
                    obtain ⟨b, _, rfl⟩ := List.mem_map.1 hv
                    rfl
                  · show Result.ok (((strOf b).extract 0 b.length).data.map fun b => Value.int .u8 b.toNat) w' = _
                    congr 1
                    rw [strOf_extract, List.drop_zero, List.take_length]
                    apply Array.ext'
                    simp only [strOf, Array.toList_map, List.map_map]
                    apply List.map_congr_left
                    intro b hb'
                    have := hlt b hb'
                    simp
                    omega
              obtain ⟨ρ', v', w', h1, h2, h3, h4⟩ := append_ok (ty := o.type) hE he hu' h hok r1 happ
              refine ⟨ρ', v', w', .inl ?_, h2, h3, h4⟩
              rw [exec_builtin ho hc a _ e1]
              simp only [builtin, hat]
              rw [Sem.run_bind, show [v1, Value.string (strOf b)].toArray = #[v1, Value.string (strOf b)] from rfl, h1]
              rfl
            · cases h
          · cases h
        · exact sound_no
      · -- a slice
        refine sound_eff fun C ρ s s' w a l v h hx hok => ?_
        split at h
        · rename_i x y
          split at h
          · rename_i m hm
            obtain ⟨v1, v2, e1, r1, r2⟩ := hx.two
            obtain ⟨ad, cp, rfl⟩ := lenSl_ok hm r2
            have happ : App P ρ w (z + 1) m (firstS (z + 1) m y s) t' (.slice ad m cp) := by
              refine ⟨.inl ⟨_, hu2'⟩, fun w' => by simp [Builtin.lenOf], fun w' => ?_, fun new hnew => ?_⟩
              · cases ad with
                | none => rfl
                | some ad =>
                  show (loadCells ad (0 * (z + 1))).run P w' = _
                  rw [Nat.zero_mul]
                  rfl
              · obtain ⟨vs, g1, g2, g3⟩ := first_okH (P := P) hok hnew r2
                refine ⟨vs, g2, g3, ?_, g1⟩
                have hl := g2.length
                unfold firstS at hnew
                unfold lenSl at hm
                split at hnew
                · rename_i p hp
                  rw [hp] at hm
                  cases hm
                  split at hnew
                  · split at hnew
                    · obtain ⟨q1, q2⟩ := takeFrom_eq _ _ _ _ hnew
                      rw [hl, q2]
                      simp only [List.length_take, List.length_drop]
                      have : Nat.mul p.2.2.2.1 (z + 1) = p.2.2.2.1 * (z + 1) := rfl
                      omega
                    · cases hnew
                  · cases hnew
                · rename_i hp
                  rw [hp] at hm
                  dsimp only at hm
                  split at hm
                  · rename_i hn
                    cases hm
                    rw [hn] at hnew
                    cases hnew
                    simpa using hl
                  · cases hm
            obtain ⟨ρ', v', w', h1, h2, h3, h4⟩ := append_ok (ty := o.type) hE he hu' h hok r1 happ
            refine ⟨ρ', v', w', .inl ?_, h2, h3, h4⟩
            rw [exec_builtin ho hc a _ e1]
            simp only [builtin, hat]
            rw [Sem.run_bind, show [v1, Value.slice ad m cp].toArray = #[v1, Value.slice ad m cp] from rfl, h1]
            rfl
          · cases h
        · cases h
    · exact sound_no
  case cap =>
    split
    · rename_i t hts
      have hat : c.argTypes = #[t] := Array.ext' hts
      cases hu : E.under t with
      | none => exact sound_no
      | some d =>
      have hu' := hE.under hu
      cases d <;> dsimp only <;> first | exact sound_no | skip
      refine sound_pureL fun l v h ρ a w hx => ?_
      split at h
      · cases h
        obtain ⟨v1, e1, r1⟩ := hx.one
        rw [VR.nils_iff] at r1
        subst r1
        refine ⟨.int .i64 0, ?_, VR.int_iff.2 rfl⟩
        rw [exec_builtin ho hc a _ e1]
        simp [builtin, hat, Builtin.cap_, run_underlying hu', goInt]
      · cases h
        rename_i cc
        obtain ⟨v1, e1, r1⟩ := hx.one
        rw [VR.sl_iff] at r1
        obtain ⟨q, _, rfl⟩ := r1
        refine ⟨.int .i64 (cc : Int), ?_, VR.int_iff.2 rfl⟩
        rw [exec_builtin ho hc a _ e1]
        simp [builtin, hat, Builtin.cap_, run_underlying hu', goInt]
      · cases h
    · exact sound_no
  case clear =>
    split
    · rename_i t hts
      have hat : c.argTypes = #[t] := Array.ext' hts
      cases hu : E.under t with
      | none => exact sound_no
      | some d =>
      have hu' := hE.under hu
      cases d <;> dsimp only <;> first | exact sound_no | skip
      refine sound_eff fun C ρ s s' w a l v h hx hok => ?_
      split at h
      · rename_i x
        split at h
        · rename_i j hj
          split at h
          · rename_i p hp
            obtain ⟨h2, rfl⟩ := skip1_inv h
            clear h
            have h := h2
            obtain ⟨v1, e1, r1⟩ := hx.one
            rw [asMp_iff.1 hj, VR.mp_iff] at r1
            obtain ⟨q, hq, rfl⟩ := r1
            obtain ⟨arr, hb, he⟩ := hok.mapAt hq hp
            obtain ⟨h10, h11⟩ := hok.setMap hq hp h (a := #[]) rfl
            refine ⟨ρ, .tuple #[], _, .inl ?_, h11, VR.undef ρ, h10⟩
            rw [exec_builtin ho hc a _ e1]
            simp [builtin, hat, Builtin.clear_, run_underlying hu', get_map hb, set_map _ hb]
          · cases h
        · cases h
      · cases h
    · exact sound_no
  case delete =>
    split
    · rename_i t ts hts
      have hat0 : c.argTypes[0]? = some t := by rw [← Array.getElem?_toList, hts]; rfl
      cases hu : E.under t with
      | none => exact sound_no
      | some d =>
      have hu' := hE.under hu
      cases d <;> dsimp only <;> first | exact sound_no | skip
      rename_i kt e
      cases hkd : E.kd kt with
      | none => exact sound_no
      | some D =>
      have hfit := kd_ok hE hK hkd
      refine sound_eff fun C ρ s s' w a l v h hx hok => ?_
      split at h
      · rename_i sm sk
        obtain ⟨h2, rfl⟩ := skip1_inv h
        clear h
        have h := h2
        obtain ⟨v1, v2, e1, r1, r2⟩ := hx.two
        have fin : ∀ w', (Builtin.delete_ c.argTypes o.type #[v1, v2]).run P w = .ok (.tuple #[]) w' → Ok C ρ s' w' → Ext s s' ρ ρ → ∃ ρ' v' w', ((execOp a.eval o).run P w = .ok (.value v') w' ∨ ((execOp a.eval o).run P w = .ok .skip w' ∧ v' = undef)) ∧ Ext s s' ρ ρ' ∧ VR ρ' (.tup []) v' ∧ Ok C ρ' s' w' := by
          intro w' h1 h2 h3
          refine ⟨ρ, .tuple #[], w', .inl ?_, h3, VR.undef ρ, h2⟩
          rw [exec_builtin ho hc a _ e1]
          simp only [builtin]
          rw [Sem.run_bind, show [v1, v2].toArray = #[v1, v2] from rfl, h1]
          rfl
        unfold deleteS at h
        split at h
        · rename_i j hj
          rw [asMp_iff.1 hj, VR.mp_iff] at r1
          obtain ⟨q, hq, rfl⟩ := r1
          split at h
          · rename_i p hp
            obtain ⟨arr, hb, he⟩ := hok.mapAt hq hp
            split at h
            · rename_i r hr
              obtain ⟨hF, ⟨h1, _⟩ | ⟨n, sx, e2, me, h1, h2, h3, h4, h5, h6, h7, h8, h9⟩⟩ := findS_ok r2 he hr
              · cases h1
              · cases h1
                obtain ⟨h10, h11⟩ := hok.setMap hq hp h (a := arr.eraseIdxIfInBounds n) (by rw [Array.toList_eraseIdxIfInBounds]; exact he.drop n)
                refine fin _ ?_ h10 h11
                simp [Builtin.delete_, hat0, run_underlying hu', get_map hb, hfit.check _ hF, findKey_ok hfit h9, set_map _ hb]
            · rename_i hr
              obtain ⟨hF, ⟨h1, hfv⟩ | ⟨n, sx, e2, me, h1, _⟩⟩ := findS_ok r2 he hr
              · cases h
                refine fin w ?_ hok (Ext.refl _ _)
                have hself : ({ w with heap := w.heap.setIfInBounds q.blk (.map arr p.2) } : World) = w := by
                  have hlt : q.blk < w.heap.size := (Array.getElem?_eq_some_iff.1 hb).1
                  have hv : w.heap[q.blk] = .map arr p.2 := (Array.getElem?_eq_some_iff.1 hb).2
                  cases w with
                  | mk heap tape drawn os output =>
                    congr 1
                    apply Array.ext
                    · simp
                    · intro k h1 h2
                      rw [Array.getElem_setIfInBounds]
                      split
                      · rename_i hk; subst hk; exact hv.symm
                      · rfl
                simp [Builtin.delete_, hat0, run_underlying hu', get_map hb, hfit.check _ hF, findKey_ok hfit hfv, set_map _ hb, hself]
              · cases h1
            · cases h
          · cases h
        · split at h
          · have hf : fitKey D sk = true := by assumption
            cases h
            rw [VR.nilm_iff] at r1
            subst r1
            refine fin w ?_ hok (Ext.refl _ _)
            simp [Builtin.delete_, hat0, run_underlying hu', hfit.check _ (fitKey_ok hf r2)]
          · cases h
      · cases h
    · exact sound_no
  case len =>
    split
    · rename_i t hts
      have hat : c.argTypes = #[t] := Array.ext' hts
      cases hu : E.under t with
      | none => exact sound_no
      | some d =>
      have hu' := hE.under hu
      have hop : ∀ (l : List SV), l = l := fun _ => rfl
      have one : ∀ {a : Act} {x : SV} {ρ : Ren}, VRL ρ [x] (o.op.operands.toList.map a.eval) → ∃ u, o.op.operands.toList.map a.eval = [u] ∧ VR ρ x u := fun h => h.one
      cases d <;> dsimp only <;> first | exact sound_no | skip
      · -- a string
        refine sound_pure fun xs s v s' hh => ?_
        obtain ⟨x, rfl, h, rfl⟩ := app_pure1 hh
        refine ⟨rfl, fun ρ a w hx => ?_⟩
        split at h
        · rename_i l hl
          cases h
          obtain ⟨v1, e1, r1⟩ := hx.one
          rw [asStr_iff.1 hl, VR.str_iff] at r1
          obtain ⟨rfl, _⟩ := r1
          refine ⟨.int .i64 (l.length : Int), ?_, VR.int_iff.2 (by rw [lenL_eq]; rfl)⟩
          rw [exec_builtin ho hc a _ e1]
          simp [builtin, hat, Builtin.len_, run_underlying hu', goInt, strOf_size]
        · cases h
      · -- a slice
        refine sound_pure fun xs s v s' hh => ?_
        obtain ⟨x, rfl, h, rfl⟩ := app_pure1 hh
        refine ⟨rfl, fun ρ a w hx => ?_⟩
        obtain ⟨v1, e1, r1⟩ := hx.one
        have : ∃ m, lenSl x = some m ∧ v = .int .i64 (.ofNat m) := by
          unfold lenSl
          split at h
          · rename_i p hp
            cases h
            try rw [hp]
            exact ⟨_, rfl, rfl⟩
          · rename_i hp
            try rw [hp]
            try dsimp only
            split at h
            · rename_i hn
              cases h
              try rw [hn]
              exact ⟨0, rfl, rfl⟩
            · cases h
        obtain ⟨m, hm, rfl⟩ := this
        obtain ⟨ad, cp, rfl⟩ := lenSl_ok hm r1
        refine ⟨.int .i64 (m : Int), ?_, VR.int_iff.2 rfl⟩
        rw [exec_builtin ho hc a _ e1]
        simp [builtin, hat, Builtin.len_, run_underlying hu', goInt]
      · -- a map
        intro C ρ s s' w a xs v hxs hok happ Kp Q hk
        obtain ⟨x, rfl, h, rfl⟩ := app_read1 happ
        obtain ⟨v1, e1, r1⟩ := hxs.one
        split at h
        · rename_i es hes
          cases h
          have hrun : (execOp a.eval o).run P w = .ok (.value (.int .i64 (es.length : Int))) w := by
            rw [exec_builtin ho hc a _ e1]
            rcases entries_ok hok hes r1 with ⟨rfl, rfl⟩ | ⟨r, arr, cc, rfl, hb, he⟩
            · simp [builtin, hat, Builtin.len_, run_underlying hu', goInt]
            · have := he.length
              simp at this
              simp [builtin, hat, Builtin.len_, run_underlying hu', get_map hb, goInt, this]
          exact wp_value hrun (hk ρ _ w (Ext.refl _ _) (VR.int_iff.2 rfl) hok)
        · cases h
    · exact sound_no
  case max =>
    refine sound_pureL fun l v h ρ a w hx => ?_
    split at h
    · rename_i x l
      obtain ⟨u, us, e1, r1, r2⟩ := VRL.cons_iff.1 hx
      obtain ⟨t, ht, rt⟩ := foldM_int (P := P) maxS_ok h r1 r2
      refine ⟨t, ?_, rt⟩
      rw [exec_builtin ho hc a _ e1]
      simp [builtin, Builtin.max_, ht]
    · cases h
  case copy =>
    split
    · rename_i t t' hts
      have hat : c.argTypes = #[t, t'] := Array.ext' hts
      cases hu : E.under t with
      | none => exact sound_no
      | some d =>
      have hu' := hE.under hu
      cases d <;> dsimp only <;> first | exact sound_no | skip
      rename_i e
      split
      · rename_i hsz
        obtain ⟨i, hi, hi1⟩ := hE.size hsz
        refine sound_pureL fun l v h ρ a w hx => ?_
        split at h
        · rename_i x y
          obtain ⟨v1, v2, e1, r1, r2⟩ := hx.two
          split at h
          · rename_i n m hn hm
            split at h
            · rename_i hmul
              cases h
              obtain ⟨d1, c1, rfl⟩ := lenSl_val hn r1
              obtain ⟨d2, c2, rfl⟩ := lenSl_val hm r2
              refine ⟨.int .i64 0, ?_, VR.int_iff.2 rfl⟩
              rw [exec_builtin ho hc a _ e1]
              have hmin : Nat.min m n = 0 := by
                have : n * m = 0 := hmul
                rcases Nat.mul_eq_zero.1 this with h | h <;> subst h
                · exact Nat.min_zero m
                · exact Nat.zero_min n
              have hrun := run_copy_none (P := P) w t t' o.type e d1 d2 n c1 m c2 hu' (by rw [hi]; exact congrArg some hi1) hmin
              simp only [builtin, hat]
              rw [Sem.run_bind]
              have h5 : (Builtin.copy_ #[t, t'] o.type [Value.slice d1 n c1, .slice d2 m c2].toArray).run P w = _ := hrun
              rw [h5]
              rfl
            · cases h
          · cases h
        · cases h
      · exact sound_no
    · exact sound_no
  case min =>
    refine sound_pureL fun l v h ρ a w hx => ?_
    split at h
    · rename_i x l
      obtain ⟨u, us, e1, r1, r2⟩ := VRL.cons_iff.1 hx
      obtain ⟨t, ht, rt⟩ := foldM_int (P := P) minS_ok h r1 r2
      refine ⟨t, ?_, rt⟩
      rw [exec_builtin ho hc a _ e1]
      simp [builtin, Builtin.min_, ht]
    · cases h

end
end Go.Exe
namespace Go.Exe
open Go
section
variable {P : Program} {K : CallF} {o : Oper} {E : Env}

theorem sound_range {t : Nat} {x : Operand} (hE : EnvOk P E) (ho : o.op = .range t x) : Sound P K o (opB E o) := by
  unfold opB
  rw [ho]
  dsimp only
  unfold rangeB
  cases hu : E.under t with
  | none => exact sound_no
  | some d =>
  have hu' := hE.under hu
  cases d <;> dsimp only <;> first | exact sound_no | skip
  · refine sound_eff fun C ρ s s' w a l v h hx hok => ?_
    rw [ho] at hx
    split at h
    · rename_i b
      obtain ⟨v1, e1, r1⟩ := hx.one
      simp [Op.operands] at e1
      subst e1
      rw [VR.str_iff] at r1
      obtain ⟨ev, hlt⟩ := r1
      obtain ⟨rfl, h2, h3⟩ := hok.newObj h (ob := .stringIter (strOf b) 0) (fun ρ' _ => ⟨rfl, rfl, hlt⟩)
      refine ⟨_, .pointer (some ⟨w.heap.size, 0, none⟩), _, .inl ?_, h3, VR.ptr_iff.2 ⟨_, Ren.up_same _ _ _, rfl⟩, h2⟩
      simp [execOp, ho, ev, Instr.range, run_underlying hu']
    · cases h
  · refine sound_eff fun C ρ s s' w a l v h hx hok => ?_
    rw [ho] at hx
    split at h
    · obtain ⟨v1, e1, r1⟩ := hx.one
      simp [Op.operands] at e1
      subst e1
      rw [VR.nilm_iff] at r1
      obtain ⟨rfl, h2, h3⟩ := hok.newObj h (ob := .mapIter none 0 #[] 0) (fun ρ' _ => ⟨none, rfl, rfl, rfl⟩)
      refine ⟨_, .pointer (some ⟨w.heap.size, 0, none⟩), _, .inl ?_, h3, VR.ptr_iff.2 ⟨_, Ren.up_same _ _ _, rfl⟩, h2⟩
      simp [execOp, ho, r1, Instr.range, run_underlying hu']
    · rename_i j
      obtain ⟨v1, e1, r1⟩ := hx.one
      simp [Op.operands] at e1
      subst e1
      rw [VR.mp_iff] at r1
      obtain ⟨q, hq, ev⟩ := r1
      split at h
      · rename_i es c hp
        obtain ⟨arr, hb, he⟩ := hok.mapAt hq hp
        obtain ⟨rfl, h2, h3⟩ := hok.newObj h (ob := .mapIter (some q.blk) c #[] c) (fun ρ' hl => ⟨some q.blk, rfl, rfl, q, hl _ _ hq, rfl⟩)
        refine ⟨_, .pointer (some ⟨w.heap.size, 0, none⟩), _, .inl ?_, h3, VR.ptr_iff.2 ⟨_, Ren.up_same _ _ _, rfl⟩, h2⟩
        have hb' : w.heap[q.blk]? = some (.map arr c) := hb
        simp [execOp, ho, ev, Instr.range, run_underlying hu', get_map hb']
      · cases h
    · cases h

/-! ### Steps -/
theorem any_contains (seen : List Nat) (b : Nat) : (seen.any fun x => Nat.beq x b) = seen.toArray.contains b := by
  rw [List.contains_toArray]
  induction seen with
  | nil => rfl
  | cons x l ih =>
    simp only [List.any_cons, List.contains_cons, ih]
    congr 1
    rw [Bool.eq_iff_iff]; simp [Nat.beq_eq]; exact eq_comm
theorem leftOf_ok {ρ : Ren} (seen : List Nat) : ∀ {es : List (SV × SV × Nat)} {ms : List MapEntry}, ERL ρ es ms → ERL ρ (leftOf seen es) (ms.filter fun e => !seen.toArray.contains e.born)
  | [], _, h => by rw [show _ = [] from h]; rfl
  | e :: es, _, h => by
    obtain ⟨m, ms, rfl, h1, h2, h3, h4⟩ := h
    unfold leftOf
    have ih := leftOf_ok seen h4
    rw [any_contains, ← h3]
    cases hc : seen.toArray.contains m.born with
    | true => simp only [List.filter_cons, hc, Bool.not_true, Bool.false_eq_true, if_false]; exact ih
    | false =>
      simp only [List.filter_cons, hc, Bool.not_false, if_true]
      exact ⟨m, _, rfl, h1, h2, h3, ih⟩

/-- the test that a range over a changed map ends with is passed -/
theorem head_ok {ρ : Ren} {c : Nat} {es : List (SV × SV × Nat)} {a : Array MapEntry} (he : ERL ρ es a.toList) (h : headOk c es = true) (b : Bool) : (b && !a.isEmpty && a.all (fun e => decide (e.born ≥ c))) = false := by
  cases es with
  | nil =>
    have e0 : a.toList = [] := he
    have : a = #[] := Array.ext' e0
    subst this
    simp
  | cons e es =>
    obtain ⟨m, ms, e0, h1, h2, h3, h4⟩ := he
    have hb : e.2.2 < c := by simpa [headOk, Nat.blt_eq] using h
    have : a = ⟨m :: ms⟩ := Array.ext' e0
    subst this
    have hn : ¬ (m.born ≥ c) := by omega
    simp [hn]

theorem next_ok {C : Ctx} {ρ : Ren} {s s' : ST} {w : World} (hok : Ok C ρ s w) {j : Nat} {v : SV} {str : Bool} (h : nextS str j s = some (v, s')) {p : Loc} (hp : ρ j = some p) (t : Nat) :
    ∃ v' w', p.off = 0 ∧ (Instr.next (.pointer (some ⟨p.blk, 0, none⟩)) str t).run P w = .ok v' w' ∧ VR ρ v v' ∧ Ok C ρ s' w' ∧ Ext s s' ρ ρ := by
  have hj : j < 32768 := Nat.lt_of_lt_of_le (hok.dom j p hp) hok.bound
  unfold nextS at h
  cases str <;> dsimp only at h <;> split at h
  rotate_left 3
  · rename_i b q hg
    obtain ⟨o, ho, hr⟩ := hok.obj j p hp (by rw [hg]; rfl)
    rw [hg] at hr
    obtain ⟨rfl, h0, hlt⟩ := hr
    have hget : (getObj p.blk).run P w = .ok (.stringIter (strOf b) q) w := by simp [getObj, Sem.run, ho]
    split at h
    · rename_i hd
      cases h
      refine ⟨.tuple #[.bool false], w, h0, ?_, VR.tup_iff.2 ⟨_, rfl, .cons (VR.bool_iff.2 rfl) .nil⟩, hok, Ext.refl _ _⟩
      have : ¬ (q < (strOf b).size) := by
        rw [strOf_size]
        have := List.drop_eq_nil_iff.1 hd
        omega
      simp [Instr.next, hget, this]
    · rename_i c rest hd
      split at h
      · rename_i hc
        split at h
        · rename_i s1 hput
          cases h
          have hext := Ext.put hok hput hj
          obtain ⟨rfl, _⟩ := put_ok hput
          have hlen : q < b.length := by
            rcases Nat.lt_or_ge q b.length with h' | h'
            · exact h'
            · rw [List.drop_eq_nil_of_le h'] at hd; cases hd
          have hbq : b[q]? = some c := by
            have := congrArg (fun l => l[0]?) hd
            simpa using this
          have hsz : q < (strOf b).size := by rw [strOf_size]; exact hlen
          have hat : ((strOf b)[q]'hsz).toNat = c := by
            have h1 : (strOf b)[q]? = some (UInt8.ofNat c) := by rw [strOf_get, hbq]; rfl
            have h2 : (strOf b)[q]? = some ((strOf b)[q]'hsz) := by simp [hsz]
            rw [h2] at h1
            have h3 := Option.some.inj h1
            rw [h3]
            have := hlt c (List.mem_of_getElem? hbq)
            simp
            omega
          have hc' : c < 128 := by simpa [Nat.blt_eq] using hc
          have hdec := decode_ascii (strOf b) q hsz (by rw [hat]; exact hc')
          rw [hat] at hdec
          have hset : (setObj p.blk (.stringIter (strOf b) (q + 1))).run P w = .ok () { w with heap := w.heap.setIfInBounds p.blk (.stringIter (strOf b) (q + 1)) } := by simp [setObj, Sem.run, ho]
          refine ⟨.tuple #[.bool true, goInt q, .int .i32 c], _, h0, ?_, VR.tup_iff.2 ⟨_, rfl, .cons (VR.bool_iff.2 rfl) (.cons (VR.int_iff.2 rfl) (.cons (VR.int_iff.2 rfl) .nil))⟩,
            hok.write hp (by rw [hg]; rfl) ⟨rfl, h0, hlt⟩ rfl, hext⟩
          simp [Instr.next, hget, hsz, hdec, hset]
        · cases h
      · cases h
  · cases h
  · rename_i si se sp hg
    cases h
    obtain ⟨o, ho, hr⟩ := hok.obj j p hp (by rw [hg]; rfl)
    rw [hg] at hr
    obtain ⟨r, rfl, h0, hr⟩ := hr
    have hr : r = none := hr
    subst hr
    have hget : (getObj p.blk).run P w = .ok (.mapIter none si se.toArray sp) w := by simp [getObj, Sem.run, ho]
    exact ⟨.tuple #[.bool false], w, h0, by simp [Instr.next, hget], VR.tup_iff.2 ⟨_, rfl, .cons (VR.bool_iff.2 rfl) .nil⟩, hok, Ext.refl _ _⟩
  · rename_i m since seen stepped hg
    obtain ⟨o, ho, hr⟩ := hok.obj j p hp (by rw [hg]; rfl)
    rw [hg] at hr
    obtain ⟨r, rfl, h0, q, hq, rfl⟩ := hr
    have hget : (getObj p.blk).run P w = .ok (.mapIter (some q.blk) since seen.toArray stepped) w := by simp [getObj, Sem.run, ho]
    split at h
    · rename_i es c hm
      obtain ⟨arr, hb, he⟩ := hok.mapAt hq hm
      have hb : w.heap[q.blk]? = some (.map arr c) := hb
      split at h
      · cases h
      · rename_i hcs
        simp only [Bool.and_eq_true] at hcs
        have hc : c = stepped := Nat.eq_of_beq_eq_true hcs.1
        subst hc
        have hhead := head_ok he hcs.2
        have hleft := leftOf_ok seen he
        have hnev : ∀ bb : Bool, (bb && !arr.isEmpty && arr.all (fun e => decide (e.born ≥ c))) = true → False := fun bb hh => by rw [hhead bb] at hh; cases hh
        have hgetm := get_map (P := P) hb
        split at h
        · rename_i hl
          cases h
          rw [hl] at hleft
          have hl0 : arr.toList.filter (fun e => !seen.toArray.contains e.born) = [] := hleft
          have hl1 : arr.filter (fun e => !seen.toArray.contains e.born) = #[] := by apply Array.ext'; rw [Array.toList_filter]; exact hl0
          refine ⟨.tuple #[.bool false], w, h0, ?_, VR.tup_iff.2 ⟨_, rfl, .cons (VR.bool_iff.2 rfl) .nil⟩, hok, Ext.refl _ _⟩
          unfold Instr.next
          simp only [Sem.run_bind, hget, Result.andThen_ok, hgetm, hhead, Bool.false_eq_true, if_false, hl1]
          simp [Question.forced, choose, Sem.run]
        · rename_i e hl
          rw [hl] at hleft
          obtain ⟨me, ms, hl0, h1, h2, h3, h4⟩ := hleft
          have h4 : ms = [] := h4
          subst h4
          split at h
          · rename_i hbs
            have hbs : e.2.2 < since := by simpa [Nat.blt_eq] using hbs
            split at h
            · rename_i s1 hput
              cases h
              have hext := Ext.put hok hput hj
              obtain ⟨rfl, _⟩ := put_ok hput
              have hl1 : arr.filter (fun e => !seen.toArray.contains e.born) = #[me] := by apply Array.ext'; rw [Array.toList_filter]; exact hl0
              have hborn : me.born < since := by omega
              have hset : (setObj p.blk (.mapIter (some q.blk) since (seen.toArray.push me.born) c)).run P w = .ok () { w with heap := w.heap.setIfInBounds p.blk (.mapIter (some q.blk) since (seen.toArray.push me.born) c) } := by simp [setObj, Sem.run, ho]
              refine ⟨.tuple #[.bool true, me.key, me.val], { w with heap := w.heap.setIfInBounds p.blk (.mapIter (some q.blk) since (seen.toArray.push me.born) c) }, h0, ?_, VR.tup_iff.2 ⟨_, rfl, .cons (VR.bool_iff.2 rfl) (.cons h1 (.cons h2 .nil))⟩,
                hok.write hp (by rw [hg]; rfl) ⟨some q.blk, ?_, h0, q, hq, rfl⟩ rfl, hext⟩
              · unfold Instr.next
                simp only [Sem.run_bind, hget, Result.andThen_ok, hgetm, hhead, Bool.false_eq_true, if_false, hl1]
                have hf1 : (#[me] : Array MapEntry).filter (fun x => decide (x.born < since)) = #[me] := by apply Array.ext'; simp [hborn]
                have hf2 : (#[me] : Array MapEntry).filter (fun x => decide (x.born ≥ since)) = #[] := by apply Array.ext'; simp; omega
                rw [hf1, hf2]
                simp [Question.forced, choose, Sem.run]
                simp [setObj, Sem.run, ho]
              · simp [h3]
            · cases h
          · cases h
        · cases h
    · cases h
  · cases h

theorem sound_next {x : Operand} {str : Bool} (ho : o.op = .next x str) : Sound P K o (opB E o) := by
  unfold opB
  rw [ho]
  refine sound_eff fun C ρ s s' w a l v h hx hok => ?_
  rw [ho] at hx
  split at h
  · rename_i sx
    obtain ⟨v1, e1, r1⟩ := hx.one
    simp [Op.operands] at e1
    subst e1
    split at h
    · rename_i j hj
      rw [asPtr_iff.1 hj, VR.ptr_iff] at r1
      obtain ⟨p, hp, ev⟩ := r1
      obtain ⟨v', w', h0, h1, h2, h3, h4⟩ := next_ok (P := P) hok h hp o.type
      refine ⟨ρ, v', w', .inl ?_, h4, h2, h3⟩
      have ev' : a.eval x = .pointer (some ⟨p.blk, 0, none⟩) := by rw [ev]; simp [h0]
      simp only [execOp, ho, ev']
      rw [Sem.run_bind, h1]
      rfl
    · cases h
  · cases h

theorem bornAt_ok {ρ : Ren} {b : Nat} {k v : SV} : ∀ {es : List (SV × SV × Nat)} {ms : List MapEntry}, ERL ρ es ms → bornAt b es = some (k, v) → ∃ m, ms.find? (fun e => e.born == b) = some m ∧ VR ρ k m.key ∧ VR ρ v m.val
  | [], _, _, h => by cases h
  | e :: es, _, he, h => by
    obtain ⟨m, ms, rfl, h1, h2, h3, h4⟩ := he
    unfold bornAt at h
    split at h
    · rename_i hb
      cases h
      have := Nat.eq_of_beq_eq_true hb
      exact ⟨m, by simp [h3, this], h1, h2⟩
    · rename_i hb
      obtain ⟨m', q, r⟩ := bornAt_ok h4 h
      refine ⟨m', ?_, r⟩
      have : ¬ m.born = b := by rw [h3]; exact fun hh => by rw [beqT hh] at hb; cases hb
      rw [List.find?_cons_of_neg (by simpa using this)]
      exact q

theorem entry_ok {C : Ctx} {ρ : Ren} {s : ST} {w : World} (hok : Ok C ρ s w) {j : Nat} {v : SV} (h : entryS j s = some v) {p : Loc} (hp : ρ j = some p) :
    ∃ v', p.off = 0 ∧ (Instr.entry (.pointer (some ⟨p.blk, 0, none⟩))).run P w = .ok v' w ∧ VR ρ v v' := by
  unfold entryS at h
  have key : ∀ (m : Nat) (es : List (SV × SV × Nat)) (c b : Nat) (q : Loc) (since : Nat) (seen : Array Nat) (stepped : Nat), p.off = 0 → s.mapOf m = some (es, c) → ρ m = some q → w.heap[p.blk]? = some (.mapIter (some q.blk) since seen stepped) → seen.back? = some b →
      (match Nat.beq c stepped, bornAt b es with | true, some (k, v) => some (SV.tup [k, v]) | _, _ => none) = some v → ∃ v', p.off = 0 ∧ (Instr.entry (.pointer (some ⟨p.blk, 0, none⟩))).run P w = .ok v' w ∧ VR ρ v v' := by
    intro m es c b q since seen stepped h0 hm hq hob hbk hh
    obtain ⟨arr, hb, he⟩ := hok.mapAt hq hm
    have hb : w.heap[q.blk]? = some (.map arr c) := hb
    split at hh
    · rename_i k v' e1 e2
      cases hh
      obtain ⟨me, g1, g2, g3⟩ := bornAt_ok he e2
      have hcs := Nat.eq_of_beq_eq_true e1
      subst hcs
      refine ⟨.tuple #[me.key, me.val], h0, ?_, VR.tup_iff.2 ⟨_, rfl, .cons g2 (.cons g3 .nil)⟩⟩
      have hget : (getObj p.blk).run P w = .ok (.mapIter (some q.blk) since seen c) w := by simp [getObj, Sem.run, hob]
      have g1' : arr.find? (fun e => e.born == b) = some me := by rw [← Array.find?_toList]; exact g1
      simp [Instr.entry, hget, hbk, get_map hb, g1']
    · cases hh
  split at h
  · rename_i m si seen stepped hg
    obtain ⟨o, ho, hr⟩ := hok.obj j p hp (by rw [hg]; rfl)
    rw [hg] at hr
    obtain ⟨r, rfl, h0, q, hq, rfl⟩ := hr
    split at h
    · rename_i b es c hbk hm
      exact key m es c b q si seen.toArray stepped h0 hm hq ho (by simpa using hbk) h
    · cases h
  · rename_i m b stepped hg
    obtain ⟨o, ho, hr⟩ := hok.obj j p hp (by rw [hg]; rfl)
    rw [hg] at hr
    obtain ⟨q, si, se, hq, h0, rfl, hbk⟩ := hr
    split at h
    · rename_i es c hm
      exact key m es c b q si se stepped h0 hm hq ho hbk h
    · cases h
  · cases h

theorem sound_entry {x : Operand} (ho : o.op = .entry x) : Sound P K o (opB E o) := by
  unfold opB
  rw [ho]
  refine sound_read1 (x := x) (by rw [ho]; rfl) fun C ρ s w a u v h r hok => ?_
  split at h
  · rename_i j hj
    rw [asPtr_iff.1 hj, VR.ptr_iff] at r
    obtain ⟨p, hp, ev⟩ := r
    obtain ⟨v', h0, h1, h2⟩ := entry_ok (P := P) hok h hp
    refine ⟨v', ?_, h2⟩
    have ev' : a.eval x = .pointer (some ⟨p.blk, 0, none⟩) := by rw [ev]; simp [h0]
    simp only [execOp, ho, ev']
    rw [Sem.run_bind, h1]
    rfl
  · cases h

/-! ### Calls -/
/-- a function, called, is followed rightly -/
def CallOk (P : Program) (f : Nat) (d : List SV → ST → Option (SV × ST)) : Prop :=
  ∀ (args : List SV) (s : ST) (v : SV) (s' : ST), d args s = some (v, s') → ∀ (C : Ctx) (ρ : Ren) (as : Array Value) (w : World), VRL ρ args as.toList → Ok C ρ s w →
    (∃ v' w' ρ', (callFunc f as).run P w = .ok (.value v') w' ∧ Ext s s' ρ ρ' ∧ VR ρ' v v' ∧ Ok C ρ' s' w') ∨
    ((callFunc f as).run P w = .ok (.enter f as) w ∧ Calls P f as w fun r w' => ∃ v' ρ', r = .returned v' ∧ Ext s s' ρ ρ' ∧ VR ρ' v v' ∧ Ok C ρ' s' w')

theorem sound_call {c : Call} {x : Operand} (hKf : ∀ f, CallOk P f (K f)) (ho : o.op = .call c) (hc : c.callee = .value x) : Sound P K o (opB E o) := by
  unfold opB
  rw [ho]
  dsimp only
  rw [hc]
  dsimp only
  intro C ρ s s' w a xs v hxs hok happ Kp Q hk
  have happ := app_eff happ
  rw [ho] at hxs
  have hops : (Op.call c).operands.toList.map a.eval = a.eval x :: c.args.toList.map a.eval := by simp [Op.operands, Call.operands, hc]
  rw [hops] at hxs
  split at happ
  · rename_i sx args
    split at happ
    · rename_i f hf
      split at happ
      · rename_i g hg
        obtain ⟨u, us, e1, r1, r2⟩ := VRL.cons_iff.1 hxs
        simp only [List.cons.injEq] at e1
        obtain ⟨rfl, rfl⟩ := e1
        rw [asFn_iff.1 hf, VR.fn_iff] at r1
        obtain ⟨fs, cs, ef, rf, rc⟩ := r1
        rw [hg] at ef
        have hall := (rf.append r2).append rc
        have hexec : execOp a.eval o = callFunc g (⟨fs⟩ ++ c.args.map a.eval ++ ⟨cs⟩) := by
          simp only [execOp, ho, resolve, hc, ef, Deferred.ofValue]
          rfl
        have hcall := hKf g _ s v s' happ C ρ (⟨fs⟩ ++ c.args.map a.eval ++ ⟨cs⟩) w (by simpa using hall) hok
        unfold Oper.wp
        rw [hexec]
        rcases hcall with ⟨v', w', ρ', h1, h2, h3, h4⟩ | ⟨h1, h2⟩
        · rw [h1]
          exact hk ρ' v' w' h2 h3 h4
        · rw [h1]
          refine Calls.mono h2 fun e w'' he => ?_
          obtain ⟨v', ρ', rfl, h3, h4, h5⟩ := he
          exact hk ρ' v' w'' h3 h4 h5
      · cases happ
    · cases happ
  · cases happ

/-- every operation -/
theorem opB_sound (hE : EnvOk P E) (hK : KtOk P E) (hKf : ∀ f, CallOk P f (K f)) (o : Oper) : Sound P K o (opB E o) := by
  cases ho : o.op
  case move x => unfold opB; rw [ho]; exact sound_mv (.inl ho)
  case assign x => unfold opB; rw [ho]; exact sound_mv (.inr ho)
  case pick c x y => exact sound_pick ho
  case alloc t => exact sound_alloc hE ho
  case box t x => exact sound_box ho
  case build t ps => exact sound_build hE ho
  case buildSlice t n ps => exact sound_buildSlice hE ho
  case load t x => exact sound_load hE ho
  case store t x y => exact sound_store hE ho
  case nilCheck x => exact sound_nilCheck ho
  case binOp op t x y t' => exact sound_binOp hE ho
  case unOp op t x => exact sound_unOp ho
  case convert a b x => exact sound_convert hE ho
  case makeInterface t x => exact sound_makeInterface hE ho
  case makeFunc fn a b => exact sound_makeFunc ho
  case makeMap t r => exact sound_makeMap hE ho
  case makeSlice t x y => exact sound_makeSlice hE ho
  case slice t x lo hi mx => exact sound_slice hE ho
  case fieldAddr t x f => exact sound_fieldAddr hE ho
  case field t x f => exact sound_field hE ho
  case indexAddr t x y => exact sound_indexAddr hE ho
  case index t x y => exact sound_index hE ho
  case lookup t x y ok => exact sound_lookup hE hK ho
  case mapUpdate t x y z => unfold opB; rw [ho]; exact sound_upd hE hK (.inl ho)
  case insert t x y z => unfold opB; rw [ho]; exact sound_upd hE hK (.inr ho)
  case mapEntry t x y => exact sound_mapEntry hE hK ho
  case entryStore t x y z => exact sound_entryStore ho
  case range t x => exact sound_range hE ho
  case next x str => exact sound_next ho
  case entry x => exact sound_entry ho
  case extract x i => exact sound_extract ho
  case call c =>
    cases hc : c.callee
    case value x => exact sound_call hKf ho hc
    case builtin b => unfold opB; rw [ho]; dsimp only; rw [hc]; exact sound_builtin hE hK ho hc
    all_goals (unfold opB; rw [ho]; dsimp only; rw [hc]; exact sound_no)
  all_goals (unfold opB; rw [ho]; exact sound_no)

end
end Go.Exe
namespace Go.Exe
open Go
section
variable {P : Program} {K : CallF} {E : Env}

structure TmR (ρ : Ren) (n : Nat) (tm : Tm) (a : Act) : Prop where
  size : a.tmps.size = n
  small : n ≤ 512
  rel : ∀ t, t < 512 → VR ρ ((getB t).f tm) (a.tmps.getD t undef)

theorem TmR.mono {ρ ρ' : Ren} {n : Nat} {tm : Tm} {a : Act} (h : TmR ρ n tm a) (hle : ρ.le ρ') : TmR ρ' n tm a := ⟨h.size, h.small, fun t ht => (h.rel t ht).mono hle _ _⟩

theorem getD_put_same {a : Act} {d : Nat} {v : Value} (h : d < a.tmps.size) : (a.put (some d) v).tmps.getD d undef = v := by
  simp [Act.put, h]
theorem getD_put_ne {a : Act} {d t : Nat} {v : Value} (h : t ≠ d) : (a.put (some d) v).tmps.getD t undef = a.tmps.getD t undef := by
  simp [Act.put, Array.getElem?_setIfInBounds_ne (Ne.symm h)]
theorem size_put {a : Act} {d : Option Nat} {v : Value} : (a.put d v).tmps.size = a.tmps.size := by
  cases d <;> simp [Act.put]
theorem defers_put {a : Act} {d : Option Nat} {v : Value} : (a.put d v).defers = a.defers := by cases d <;> rfl

theorem TmR.put {ρ : Ren} {n d : Nat} {tm : Tm} {a : Act} (h : TmR ρ n tm a) (hd : d < n) {x : SV} {v : Value} (hv : VR ρ x v) : TmR ρ n ((putB d).f x tm) (a.put (some d) v) := by
  have hs := h.small
  refine ⟨by rw [size_put]; exact h.size, h.small, fun t ht => ?_⟩
  by_cases e : t = d
  · subst e
    rw [get_put_same _ _ ht, getD_put_same (by rw [h.size]; exact hd)]
    exact hv
  · rw [get_put_ne _ _ (by omega) ht e, getD_put_ne e]
    exact h.rel t ht
theorem TmR.putO {ρ : Ren} {n : Nat} {d : Option Nat} {tm : Tm} {a : Act} (h : TmR ρ n tm a) (hd : ∀ t, d = some t → t < n) {x : SV} {v : Value} (hv : VR ρ x v) : TmR ρ n ((putO d).f x tm) (a.put d v) := by
  cases d with
  | none => exact h
  | some d => exact h.put (hd d rfl) hv

theorem evB_ok {ρ : Ren} {n : Nat} {tm : Tm} {a : Act} (h : TmR ρ n tm a) (x : Operand) : VR ρ ((evB x).f tm) (a.eval x) := by
  cases x with
  | tmp t =>
    unfold evB
    dsimp only
    split
    · rename_i ht
      exact h.rel t (by simpa [Nat.blt_eq] using ht)
    · simp [VR]
  | const v => exact toSV_ok ρ v
  | global g => simp [evB, VR]
  | func f => exact VR.fn_iff.2 ⟨[], [], rfl, .nil, .nil⟩

theorem vals_cons (tm : Tm) (e : Fun Tm SV) (l : List (Fun Tm SV)) : vals tm (e :: l) = e.f tm :: vals tm l := rfl
theorem vals_nil (tm : Tm) : vals tm [] = [] := rfl
theorem vals_ok {ρ : Ren} {n : Nat} {tm : Tm} {a : Act} (h : TmR ρ n tm a) : ∀ l : List Operand, VRL ρ (vals tm (evs l)) (l.map a.eval)
  | [] => .nil
  | x :: l => .cons (evB_ok h x) (vals_ok h l)

theorem stepB_run (op : OpB) (xs : List (Fun Tm SV)) (p : Fun SV (Tm → Tm)) (r : Box) (tm : Tm) (s : ST) :
    (stepB op xs p r).run K tm s = match op.app K (vals tm xs) s with | some (v, s') => r.run K (p.f v tm) s' | none => none := by
  obtain ⟨p⟩ := p
  obtain ⟨r⟩ := r
  cases op with
  | mv => match xs with
    | [] => rfl
    | [⟨x⟩] => rfl
    | _ :: _ :: _ => rfl
  | pure1 f => match xs with
    | [] => rfl
    | [⟨x⟩] =>
      show (match f (x tm) with | some v => r K (p v tm) s | none => none) = match (f (x tm)).map (·, s) with | some (v, s') => r K (p v tm) s' | none => none
      cases f (x tm) <;> rfl
    | _ :: _ :: _ => rfl
  | pure2 f => match xs with
    | [] => rfl
    | [_] => rfl
    | [⟨x⟩, ⟨y⟩] =>
      show (match f (x tm) (y tm) with | some v => r K (p v tm) s | none => none) = match (f (x tm) (y tm)).map (·, s) with | some (v, s') => r K (p v tm) s' | none => none
      cases f (x tm) (y tm) <;> rfl
    | _ :: _ :: _ :: _ => rfl
  | pure f =>
    show (match f (vals tm xs) with | some v => r K (p v tm) s | none => none) = match (f (vals tm xs)).map (·, s) with | some (v, s') => r K (p v tm) s' | none => none
    cases f (vals tm xs) <;> rfl
  | read1 f => match xs with
    | [] => rfl
    | [⟨x⟩] =>
      show (match f (x tm) s with | some v => r K (p v tm) s | none => none) = match (f (x tm) s).map (·, s) with | some (v, s') => r K (p v tm) s' | none => none
      cases f (x tm) s <;> rfl
    | _ :: _ :: _ => rfl
  | read f =>
    show (match f (vals tm xs) s with | some v => r K (p v tm) s | none => none) = match (f (vals tm xs) s).map (·, s) with | some (v, s') => r K (p v tm) s' | none => none
    cases f (vals tm xs) s <;> rfl
  | mk f =>
    show (match f (vals tm xs) with
      | some (⟨g⟩, x) => match Nat.blt s.next 32768 with
        | true => r K (p (g s.next) tm) ⟨s.heap.set s.next x, Nat.succ s.next, s.lo, s.it⟩
        | false => none
      | none => none) = match (match f (vals tm xs) with | some (g, x) => s.new (g.f s.next) x | none => none) with | some (v, s') => r K (p v tm) s' | none => none
    cases f (vals tm xs) with
    | none => rfl
    | some q =>
      obtain ⟨⟨g⟩, x⟩ := q
      dsimp only
      unfold ST.new
      cases Nat.blt s.next 32768 <;> rfl
  | eff f =>
    show (match f K (vals tm xs) s with | some (v, s) => r K (p v tm) s | none => none) = match f K (vals tm xs) s with | some (v, s') => r K (p v tm) s' | none => none
    rfl
  | no => rfl

theorem guardB_run (g : Nat) (b : Bool) (p : Fun SV (Tm → Tm)) (d r : Box) (tm : Tm) (s : ST) : (guardB (some (g, b)) p d r).run K tm s = match (getB g).f tm with
    | .bool c => match c == b with
      | true => d.run K tm s
      | false => r.run K (p.f (.tup []) tm) s
    | .tup [] => r.run K (p.f (.tup []) tm) s
    | _ => none := by
  unfold guardB
  dsimp only
  obtain ⟨p⟩ := p
  obtain ⟨d⟩ := d
  obtain ⟨r⟩ := r
  generalize getB g = q
  obtain ⟨q⟩ := q
  rfl

theorem guardOf_some {all : Array Oper} {g : Option (Nat × Bool)} {d : Nat} {b : Bool} (h : guardOf all.toList g = some (d, b)) : ∃ j p, g = some (j, b) ∧ all[j]? = some p ∧ p.dst = some d := by
  unfold guardOf at h
  split at h
  · rename_i j b'
    split at h
    · rename_i p hp
      split at h
      · rename_i d' hd
        cases h
        exact ⟨j, p, rfl, by rw [← Array.getElem?_toList]; exact hp, hd⟩
      · cases h
    · cases h
  · cases h

/-- all that an operation writes is there -/
def DstOk (n : Nat) (ops : Array Oper) : Prop := ∀ (i : Nat) (o : Oper) (d : Nat), ops[i]? = some o → o.dst = some d → d < n

theorem wanted_bool' {all : Array Oper} {o : Oper} {j d : Nat} {b c : Bool} {p : Oper} {ρ : Ren} {a : Act} (hg : o.guard = some (j, b)) (hp : all[j]? = some p) (hd : p.dst = some d) (hlt : d < a.tmps.size)
    (hr : VR ρ (.bool c) (a.tmps.getD d undef)) : Region.wanted o (yielded all a.tmps) = (c == b) := by
  rw [VR.bool_iff] at hr
  have : a.tmps[d]? = some (.bool c) := by
    rw [Array.getD_eq_getD_getElem?] at hr
    simp [hlt] at hr ⊢
    exact hr
  simp only [Region.wanted, hg, yielded, hp, Option.bind_some, hd, this]
  cases c <;> cases b <;> rfl
theorem wanted_undef' {all : Array Oper} {o : Oper} {j d : Nat} {b : Bool} {p : Oper} {ρ : Ren} {a : Act} (hg : o.guard = some (j, b)) (hp : all[j]? = some p) (hd : p.dst = some d) (hlt : d < a.tmps.size)
    (hr : VR ρ (.tup []) (a.tmps.getD d undef)) : Region.wanted o (yielded all a.tmps) = false := by
  rw [VR.tup_iff] at hr
  obtain ⟨xs, e, hx⟩ := hr
  rw [VRL.nil_iff.1 hx] at e
  have : a.tmps[d]? = some (.tuple #[]) := by
    rw [Array.getD_eq_getD_getElem?] at e
    simp [hlt] at e ⊢
    exact e
  simp only [Region.wanted, hg, yielded, hp, Option.bind_some, hd, this]
  cases b <;> rfl
theorem wanted_bool {all : Array Oper} {o : Oper} {j d : Nat} {b c : Bool} {p : Oper} {ρ : Ren} {n : Nat} {tm : Tm} {a : Act} (hg : o.guard = some (j, b)) (hp : all[j]? = some p) (hd : p.dst = some d) (hdn : d < n) (h : TmR ρ n tm a)
    (hv : (getB d).f tm = .bool c) : Region.wanted o (yielded all a.tmps) = (c == b) :=
  wanted_bool' hg hp hd (by rw [h.size]; exact hdn) (by have := h.rel d (Nat.lt_of_lt_of_le hdn h.small); rwa [hv] at this)
theorem wanted_undef {all : Array Oper} {o : Oper} {j d : Nat} {b : Bool} {p : Oper} {ρ : Ren} {n : Nat} {tm : Tm} {a : Act} (hg : o.guard = some (j, b)) (hp : all[j]? = some p) (hd : p.dst = some d) (hdn : d < n) (h : TmR ρ n tm a)
    (hv : (getB d).f tm = .tup []) : Region.wanted o (yielded all a.tmps) = false :=
  wanted_undef' hg hp hd (by rw [h.size]; exact hdn) (by have := h.rel d (Nat.lt_of_lt_of_le hdn h.small); rwa [hv] at this)

/-- what no operation of a region writes is as it was -/
def Frm (all : Array Oper) (f0 : Nat → Value) (a : Act) : Prop := ∀ t, (∀ (i : Nat) (o : Oper), all[i]? = some o → o.dst ≠ some t) → a.tmps.getD t undef = f0 t
theorem Frm.put {all : Array Oper} {f0 : Nat → Value} {a : Act} (h : Frm all f0 a) {i : Nat} {o : Oper} (ho : all[i]? = some o) (v : Value) : Frm all f0 (a.put o.dst v) := by
  intro t ht
  have hne := ht i o ho
  have e : (a.put o.dst v).tmps.getD t undef = a.tmps.getD t undef := by
    cases hd : o.dst with
    | none => rfl
    | some u => exact getD_put_ne (fun e => hne (by rw [hd, e]))
  rw [e]
  exact h t ht

theorem ops_ok (hS : ∀ o : Oper, Sound P K o (opB E o)) {all : Array Oper} {n : Nat} (hd : DstOk n all) {Q : Exit → Act → World → Prop} {C : Ctx} {s0 : ST} {ρ0 : Ren} {ds : List Deferred} {tm' : Tm} {s' : ST}
    {f0 : Nat → Value} (hQ : ∀ ρ' a' w', Ext s0 s' ρ0 ρ' → TmR ρ' n tm' a' → a'.defers = ds → Frm all f0 a' → Ok C ρ' s' w' → Q .normal a' w') :
    ∀ (l : List Oper) (k : Nat) (tm : Tm) (s : ST) (ρ : Ren) (a : Act) (w : World), (∀ j, l[j]? = all[k + j]?) → (opsB E all.toList l).run K tm s = some (tm', s') → Ext s0 s ρ0 ρ → TmR ρ n tm a → a.defers = ds → Frm all f0 a → Ok C ρ s w →
      wpOps P all Q (List.range' k l.length) a w
  | [], k, tm, s, ρ, a, w, _, hrun, hext, htm, hds, hfr, hok => by
    cases hrun
    exact hQ ρ a w hext htm hds hfr hok
  | o :: l, k, tm, s, ρ, a, w, hl, hrun, hext, htm, hds, hfr, hok => by
    have h0 : all[k]? = some o := by simpa using (hl 0).symm
    have hl' : ∀ j, l[j]? = all[k + 1 + j]? := fun j => by have := hl (j + 1); simpa [Nat.add_assoc, Nat.add_comm 1 j] using this
    have hdst : ∀ t, o.dst = some t → t < n := fun t ht => hd k o t h0 ht
    rw [List.length_cons, List.range'_succ]
    simp only [wpOps, h0]
    have go : ∀ (r : Box), r = opsB E all.toList l → (stepB (opB E o) (evs o.op.operands.toList) (putO o.dst) r).run K tm s = some (tm', s') → o.wp P a w (wpOps P all Q (List.range' (k + 1) l.length)) Q := by
      rintro r rfl hr
      rw [stepB_run] at hr
      split at hr
      · rename_i v s1 happ
        refine hS o C ρ s s1 w a _ v (vals_ok htm _) hok happ _ Q fun ρ' v' w' he hv hok' => ?_
        exact ops_ok hS hd hQ l (k + 1) _ s1 ρ' _ w' hl' hr (hext.trans he) ((htm.mono he.le).putO hdst hv) (by rw [defers_put]; exact hds) (hfr.put h0 _) hok'
      · cases hr
    have skip : ∀ (r : Box), r = opsB E all.toList l → r.run K ((putO o.dst).f (.tup []) tm) s = some (tm', s') → wpOps P all Q (List.range' (k + 1) l.length) (a.put o.dst undef) w := by
      rintro r rfl hr
      exact ops_ok hS hd hQ l (k + 1) _ s ρ _ w hl' hr hext (htm.putO hdst (VR.undef ρ)) (by rw [defers_put]; exact hds) (hfr.put h0 _) hok
    unfold opsB at hrun
    split at hrun
    · rename_i hg
      have hw : Region.wanted o (yielded all a.tmps) = true := by simp [Region.wanted, hg]
      rw [if_pos hw]
      exact .inl (go _ rfl hrun)
    · rename_i gg hg
      split at hrun
      · rename_i g hgo
        obtain ⟨d, b⟩ := g
        obtain ⟨j, p, e1, e2, e3⟩ := guardOf_some hgo
        have hdn := hd j p d e2 e3
        rw [guardB_run] at hrun
        split at hrun
        · rename_i c hc
          have hw := wanted_bool e1 e2 e3 hdn htm hc
          split at hrun
          · rename_i hcb
            rw [if_pos (by rw [hw]; exact hcb)]
            exact .inl (go _ rfl hrun)
          · rename_i hcb
            rw [if_neg (by rw [hw, hcb]; simp)]
            exact skip _ rfl hrun
        · rename_i hc
          have hw := wanted_undef e1 e2 e3 hdn htm hc
          rw [if_neg (by rw [hw]; simp)]
          exact skip _ rfl hrun
        · cases hrun
      · cases hrun

/-- a region in the order of its text -/
theorem region_ok (hS : ∀ o : Oper, Sound P K o (opB E o)) {id : Nat} {ops : Array Oper} {n : Nat} (hd : DstOk n ops) {Q : Exit → Act → World → Prop} {C : Ctx} {tm tm' : Tm} {s s' : ST} {ρ : Ren} {a : Act} {w : World}
    (hrun : (opsB E ops.toList ops.toList).run K tm s = some (tm', s')) (htm : TmR ρ n tm a) (hok : Ok C ρ s w)
    (hQ : ∀ ρ' a' w', Ext s s' ρ ρ' → TmR ρ' n tm' a' → a'.defers = a.defers → Frm ops (fun t => a.tmps.getD t undef) a' → Ok C ρ' s' w' → Q .normal a' w') : (Code.region id ops false).wp P Q a w := by
  refine wp_region ?_
  rw [List.range_eq_range']
  have := ops_ok hS hd hQ ops.toList 0 tm s ρ a w (fun j => by simp) hrun (Ext.refl _ _) htm rfl (fun _ _ => rfl) hok
  simpa using this

end
end Go.Exe
