/- prepared: the document's operations, with rows that lie apart from the cache. Of at most 2^38 entries, 2^40 keys. -/
import Derived.Test.YtfcopniihcaefaaPX
namespace Go.Proofs.Ytfcopniihcaefaa
open Go.RowKit
def ke0 : KE := ([], [], [])
theorem GotK.full {w' : World} {base : Nat} {o : Option KE} {r : Ending} (h : GotK w' base o r) : ∃ A' c', r = .returned (.tuple #[.agg #[.string ⟨(o.getD ke0).1.toArray⟩, .string ⟨(o.getD ke0).2.1.toArray⟩, .slice A' (o.getD ke0).2.2.length c'], .bool o.isSome]) ∧ KO w' base ⟨(o.getD ke0).1, (o.getD ke0).2.1, A', (o.getD ke0).2.2.length, c', (o.getD ke0).2.2⟩ := by
  cases o with
  | none => exact ⟨none, 0, h, KO.zero w' base⟩
  | some e =>
    obtain ⟨A', c', h1, h2⟩ := h
    exact ⟨A', c', h1, h2⟩
section
variable {w : World} {P Q : Nat} {v : Value} {A : Option Addr} {n c : Nat} {es : List En}
theorem far_lt : ∀ g, (Far w P v g ∧ g ≠ Q) → g < w.heap.size := fun _ h => h.1.lt
theorem UF.below' {w' : World} {B : Option Addr} {k d : Nat} {zs : List Nat} (h : UF (fun g => Far w P v g ∧ g ≠ Q) w B k d zs) (hb : Below w.heap.size w w') : UF (fun g => Far w' P v g ∧ g ≠ Q) w' B k d zs :=
  h.kept fun g hg => ⟨⟨((Kw.of_below hb P v).keep g hg.1).1, hg.2⟩, ((Kw.of_below hb P v).keep g hg.1).2⟩
theorem RL.below' {w' : World} (h : RL (fun g => Far w P v g ∧ g ≠ Q) w A n c es) (hb : Below w.heap.size w w') : RL (fun g => Far w' P v g ∧ g ≠ Q) w' A n c es :=
  h.kept fun g hg => ⟨⟨((Kw.of_below hb P v).keep g hg.1).1, hg.2⟩, ((Kw.of_below hb P v).keep g hg.1).2⟩
theorem KO.uq {w' : World} {e : En} {base : Nat} (h : KO w' base e) (hP : P < base) (hQ : Q < base) (hv : ∀ g, v.ownBlock = some g → g < base) : UF (fun g => Far w' P v g ∧ g ≠ Q) w' e.A e.n e.c e.ks :=
  h.uf fun g h1 h2 => ⟨⟨h2, by omega, fun x => by have := hv g x.symm; omega⟩, by omega⟩
theorem UF.zero (F : Nat → Prop) (w : World) : UF F w none 0 0 [] := ⟨rfl, Nat.le_refl _, Nat.zero_le _, fun z hz => absurd hz (by simp), fun _ => rfl, fun h => absurd h (Nat.lt_irrefl _)⟩
theorem rtext_u (N0 : Int) (t : List UInt8) (hl : RL (fun g => Far w P v g ∧ g ≠ Q) w A n c es) (hP : P < w.heap.size) (hQ : Q < w.heap.size) (hv : ∀ g, v.ownBlock = some g → g < w.heap.size) (hn : n ≤ 274877906944) :
    Calls Try.prog 13 #[.agg #[.int .i64 N0, .slice A n c], .string ⟨t.toArray⟩] w fun r w' => Below w.heap.size w w' ∧ ∃ Av cv, ∃ e : En, ∃ es' : List En, r = .returned (.tuple #[.agg #[.int .i64 N0, .slice Av es'.length cv], .agg #[.string ⟨e.t.toArray⟩, .string ⟨e.i.toArray⟩, .slice e.A e.n e.c], .bool ((es.map En.k).find? fun y => y.1 == t).isSome]) ∧
      RL (fun g => Far w' P v g ∧ g ≠ Q) w' Av es'.length cv es' ∧ es'.map En.k = textK t (es.map En.k) ∧ UF (fun g => Far w' P v g ∧ g ≠ Q) w' e.A e.n e.c e.ks ∧ e.k = ((es.map En.k).find? fun y => y.1 == t).getD ke0 := by
  refine (rtext_any N0 t w hl far_lt hn).mono ?_
  rintro r w' ⟨hb, hr⟩
  have hf : (fun e : En => e.t == t) = (fun y : KE => y.1 == t) ∘ En.k := rfl
  have hlen := hl.len
  refine ⟨hb, ?_⟩
  rw [List.find?_map, ← hf]
  rcases hr with ⟨h1, rfl⟩ | ⟨e, u, h1, rfl, h3⟩
  · rw [h1]
    refine ⟨A, c, en0, es, by rw [hlen]; rfl, by rw [hlen]; exact hl.below' hb, ?_, UF.zero _ _, rfl⟩
    unfold textK
    rw [List.find?_map, ← hf, h1]
    rfl
  · rw [h1]
    have hem := List.mem_of_find?_eq_some h1
    obtain ⟨Av, cv, rfl, hrl⟩ := h3.rl hP hQ hv hb hl (fun y hy => by
      rcases List.mem_cons.1 hy with rfl | hy
      · exact .inl hem
      · exact .inl (List.mem_of_mem_eraseIdx hy))
    refine ⟨Av, cv, e, _, rfl, hrl, ?_, (hl.us e hem).below' hb, rfl⟩
    unfold textK
    rw [List.find?_map, ← hf, h1, List.findIdx_map, ← hf, List.map_cons, erase_map]
    rfl
theorem rid_u (N0 : Int) (t : List UInt8) (hl : RL (fun g => Far w P v g ∧ g ≠ Q) w A n c es) (hn : n ≤ 274877906944) :
    Calls Try.prog 16 #[.agg #[.int .i64 N0, .slice A n c], .string ⟨t.toArray⟩] w fun r w' => Below w.heap.size w w' ∧ ∃ e : En, r = .returned (.tuple #[.agg #[.string ⟨e.t.toArray⟩, .string ⟨e.i.toArray⟩, .slice e.A e.n e.c], .bool ((es.map En.k).find? fun y => y.2.1 == t).isSome]) ∧
      UF (fun g => Far w' P v g ∧ g ≠ Q) w' e.A e.n e.c e.ks ∧ e.k = ((es.map En.k).find? fun y => y.2.1 == t).getD ke0 := by
  refine (rid_any N0 t w hl far_lt (by omega)).mono ?_
  rintro r w' ⟨hb, e, rfl, h1⟩
  have hf : (fun e : En => e.i == t) = (fun y : KE => y.2.1 == t) ∘ En.k := rfl
  refine ⟨hb, ?_⟩
  rw [List.find?_map, ← hf]
  rcases h1 with h1 | ⟨h1, rfl⟩
  · rw [h1]
    exact ⟨e, rfl, (hl.us e (List.mem_of_find?_eq_some h1)).below' hb, rfl⟩
  · rw [h1]
    exact ⟨en0, rfl, UF.zero _ _, rfl⟩
theorem rdrop_u (N0 : Int) (t : List UInt8) (hl : RL (fun g => Far w P v g ∧ g ≠ Q) w A n c es) (hP : P < w.heap.size) (hQ : Q < w.heap.size) (hv : ∀ g, v.ownBlock = some g → g < w.heap.size) (hn : n ≤ 274877906944) :
    Calls Try.prog 18 #[.agg #[.int .i64 N0, .slice A n c], .string ⟨t.toArray⟩] w fun r w' => Below w.heap.size w w' ∧ ∃ Av cv, ∃ es' : List En, r = .returned (.tuple #[.agg #[.int .i64 N0, .slice Av es'.length cv], .bool ((es.map En.k).find? fun y => y.2.1 == t).isSome]) ∧
      RL (fun g => Far w' P v g ∧ g ≠ Q) w' Av es'.length cv es' ∧ es'.map En.k = (es.map En.k).filter fun y => !(y.2.1 == t) := by
  refine (rdrop_any N0 t w hl far_lt hn).mono ?_
  rintro r w' ⟨hb, u, rfl, h3⟩
  have hf : (fun e : En => e.i == t) = (fun y : KE => y.2.1 == t) ∘ En.k := rfl
  refine ⟨hb, ?_⟩
  obtain ⟨Av, cv, rfl, hrl⟩ := h3.rl hP hQ hv hb hl (fun y hy => .inl (List.mem_filter.1 hy).1)
  refine ⟨Av, cv, _, ?_, hrl, ?_⟩
  · have hs : (es.find? fun e => e.i == t).isSome = es.any fun e => e.i == t := by
      rw [Bool.eq_iff_iff]
      simp
    rw [List.find?_map, ← hf, Option.isSome_map, hs]
  · rw [List.filter_map]
    rfl
theorem rput_u (N0 : Int) (m : Nat) (hm : max N0 0 = (m : Int)) (e : En) (hl : RL (fun g => Far w P v g ∧ g ≠ Q) w A n c es) (he : UF (fun g => Far w P v g ∧ g ≠ Q) w e.A e.n e.c e.ks) (hP : P < w.heap.size) (hQ : Q < w.heap.size) (hv : ∀ g, v.ownBlock = some g → g < w.heap.size) (hn : n ≤ 274877906944) :
    Calls Try.prog 10 #[.agg #[.int .i64 N0, .slice A n c], .agg #[.string ⟨e.t.toArray⟩, .string ⟨e.i.toArray⟩, .slice e.A e.n e.c]] w fun r w' => Below w.heap.size w w' ∧ ∃ Av cv, ∃ es' : List En, r = .returned (.agg #[.int .i64 N0, .slice Av es'.length cv]) ∧
      RL (fun g => Far w' P v g ∧ g ≠ Q) w' Av es'.length cv es' ∧ es'.map En.k = putK m e.k (es.map En.k) := by
  refine (rput_any N0 m hm e w hl far_lt hn).mono ?_
  rintro r w' ⟨hb, u, rfl, h3⟩
  refine ⟨hb, ?_⟩
  obtain ⟨Av, cv, rfl, hrl⟩ := h3.rl hP hQ hv hb hl (fun y hy => by
    rcases List.mem_cons.1 (List.mem_of_mem_take hy) with rfl | hy
    · exact .inr (he.below' hb)
    · exact .inl (List.mem_filter.1 hy).1)
  refine ⟨Av, cv, _, rfl, hrl, ?_⟩
  rw [List.map_take, List.map_cons]
  unfold putK
  congr 2
  rw [List.filter_map]
  rfl
end
end Go.Proofs.Ytfcopniihcaefaa
