/- Functions that are taken as they are: sorted keys, sorting. No condition. -/
import Derived.Test.YtcjiieoggpdphaaGreatDoorExF
import Derived.Shelf.SlLaysZI
import Derived.Shelf.SlLaysZ
import Derived.Shelf.SlLaysM
import Derived.Lib.SlKeysI
import Derived.Shelf.SlIterI.Sorted
import Derived.Shelf.SortM.Plain
import Derived.Shelf.SortM.SortNone
import Derived.Shelf.SlIter.Sorted
import Derived.StringKeys
import Derived.Sort.Walk0
namespace Go.Exe
open Go Go.Proofs
set_option maxRecDepth 100000
def sortedI_ren : Shelf.Ren := ⟨fun x => match x with | 6 => 149 | 8 => 228 | 9 => 140 | 11 => 334 | x => x, fun x => match x with | 24 => 43 | 26 => 3 | 28 => 309 | 33 => 416 | x => x, fun x => x⟩
theorem sortedI : SlLaysZI.n6 Tryz.prog sortedI_ren where
  mixed := follows_mixed
  f6 := ⟨Tryz.f149.name, by kernel_rfl, by kernel_rfl⟩
  f8 := ⟨Tryz.f228.name, by kernel_rfl, by kernel_rfl⟩
  f11 := ⟨Tryz.f334.name, by kernel_rfl, by kernel_rfl⟩
  t0 := by kernel_rfl
  a0 := fun w => by kernel_rfl
  z0 := fun w => by kernel_rfl
  v0 := fun w => by kernel_rfl
  t24 := by kernel_rfl
  a24 := fun w => by kernel_rfl
  z24 := fun w => by kernel_rfl
  v24 := fun w => by kernel_rfl
  t26 := by kernel_rfl
  a26 := fun w => by kernel_rfl
  z26 := fun w => by kernel_rfl
  v26 := fun w => by kernel_rfl
  t28 := by kernel_rfl
  a28 := fun w => by kernel_rfl
  z28 := fun w => by kernel_rfl
  v28 := fun w => by kernel_rfl
  i26 := by kernel_rfl
def keysI_ren : Shelf.Ren := ⟨fun x => match x with | 10 => 229 | x => x, fun x => match x with | 3 => 194 | 23 => 195 | 26 => 3 | 33 => 416 | x => x, fun x => x⟩
theorem keysI : SlLaysZI.n10 Tryz.prog keysI_ren where
  mixed := follows_mixed
  f10 := ⟨Tryz.f229.name, by kernel_rfl, by kernel_rfl⟩
  t0 := by kernel_rfl
  a0 := fun w => by kernel_rfl
  z0 := fun w => by kernel_rfl
  v0 := fun w => by kernel_rfl
  t4 := by kernel_rfl
  a4 := fun w => by kernel_rfl
  z4 := fun w => by kernel_rfl
  v4 := fun w => by kernel_rfl
  t23 := by kernel_rfl
  a23 := fun w => by kernel_rfl
  z23 := fun w => by kernel_rfl
  v23 := fun w => by kernel_rfl
  t26 := by kernel_rfl
  a26 := fun w => by kernel_rfl
  z26 := fun w => by kernel_rfl
  v26 := fun w => by kernel_rfl
  t33 := by kernel_rfl
  a33 := fun w => by kernel_rfl
  z33 := fun w => by kernel_rfl
  v33 := fun w => by kernel_rfl
def sortInt_ren : Shelf.Ren := ⟨fun x => match x with | 5 => 140 | 7 => 217 | 8 => 133 | 10 => 317 | 11 => 318 | 12 => 319 | 13 => 320 | 14 => 321 | 15 => 322 | 16 => 323 | 17 => 324 | 18 => 325 | 19 => 203 | 20 => 204 | 30 => 413 | 31 => 295 | 32 => 296 | 33 => 414 | 34 => 415 | 35 => 416 | 40 => 477 | x => x, fun x => match x with | 22 => 43 | 23 => 43 | 25 => 3 | 32 => 70 | 35 => 376 | 36 => 377 | 41 => 188 | 44 => 175 | 46 => 30 | 53 => 485 | 57 => 489 | 63 => 571 | 64 => 572 | x => x, fun x => match x with | 0 => 1 | x => x⟩
theorem sortInt : SlLaysM.n5 Tryz.prog sortInt_ren where
  mixed := follows_mixed
  f5 := ⟨Tryz.f140.name, by kernel_rfl, by kernel_rfl⟩
  f7 := ⟨Tryz.f217.name, by kernel_rfl, by kernel_rfl⟩
  f8 := by kernel_rfl
  f10 := ⟨Tryz.f317.name, by kernel_rfl, by kernel_rfl⟩
  f11 := ⟨Tryz.f318.name, by kernel_rfl, by kernel_rfl⟩
  f12 := ⟨Tryz.f319.name, by kernel_rfl, by kernel_rfl⟩
  f13 := ⟨Tryz.f320.name, by kernel_rfl, by kernel_rfl⟩
  f14 := ⟨Tryz.f321.name, by kernel_rfl, by kernel_rfl⟩
  f15 := ⟨Tryz.f322.name, by kernel_rfl, by kernel_rfl⟩
  f16 := ⟨Tryz.f323.name, by kernel_rfl, by kernel_rfl⟩
  f17 := ⟨Tryz.f324.name, by kernel_rfl, by kernel_rfl⟩
  f18 := ⟨Tryz.f325.name, by kernel_rfl, by kernel_rfl⟩
  f19 := by kernel_rfl
  f20 := by kernel_rfl
  f30 := ⟨Tryz.f413.name, by kernel_rfl, by kernel_rfl⟩
  f31 := by kernel_rfl
  f32 := by kernel_rfl
  f33 := ⟨Tryz.f414.name, by kernel_rfl, by kernel_rfl⟩
  f34 := ⟨Tryz.f415.name, by kernel_rfl, by kernel_rfl⟩
  f35 := ⟨Tryz.f416.name, by kernel_rfl, by kernel_rfl⟩
  f40 := ⟨Tryz.f477.name, by kernel_rfl, by kernel_rfl⟩
  t0 := by kernel_rfl
  a0 := fun w => by kernel_rfl
  z0 := fun w => by kernel_rfl
  v0 := fun w => by kernel_rfl
  t3 := by kernel_rfl
  a3 := fun w => by kernel_rfl
  z3 := fun w => by kernel_rfl
  v3 := fun w => by kernel_rfl
  t4 := by kernel_rfl
  a4 := fun w => by kernel_rfl
  z4 := fun w => by kernel_rfl
  v4 := fun w => by kernel_rfl
  t5 := by kernel_rfl
  a5 := fun w => by kernel_rfl
  z5 := fun w => by kernel_rfl
  v5 := fun w => by kernel_rfl
  t9 := by kernel_rfl
  a9 := fun w => by kernel_rfl
  z9 := fun w => by kernel_rfl
  v9 := fun w => by kernel_rfl
  t22 := by kernel_rfl
  a22 := fun w => by kernel_rfl
  z22 := fun w => by kernel_rfl
  v22 := fun w => by kernel_rfl
  t23 := by kernel_rfl
  a23 := fun w => by kernel_rfl
  z23 := fun w => by kernel_rfl
  v23 := fun w => by kernel_rfl
  t25 := by kernel_rfl
  a25 := fun w => by kernel_rfl
  z25 := fun w => by kernel_rfl
  v25 := fun w => by kernel_rfl
  t32 := by kernel_rfl
  a32 := fun w => by kernel_rfl
  z32 := fun w => by kernel_rfl
  v32 := fun w => by kernel_rfl
  t35 := by kernel_rfl
  a35 := fun w => by kernel_rfl
  z35 := fun w => by kernel_rfl
  v35 := fun w => by kernel_rfl
  t36 := by kernel_rfl
  a36 := fun w => by kernel_rfl
  z36 := fun w => by kernel_rfl
  v36 := fun w => by kernel_rfl
  t41 := by kernel_rfl
  a41 := fun w => by kernel_rfl
  z41 := fun w => by kernel_rfl
  v41 := fun w => by kernel_rfl
  t44 := by kernel_rfl
  a44 := fun w => by kernel_rfl
  z44 := fun w => by kernel_rfl
  v44 := fun w => by kernel_rfl
  t46 := by kernel_rfl
  a46 := fun w => by kernel_rfl
  z46 := fun w => by kernel_rfl
  v46 := fun w => by kernel_rfl
  t53 := by kernel_rfl
  a53 := fun w => by kernel_rfl
  z53 := fun w => by kernel_rfl
  v53 := fun w => by kernel_rfl
  t57 := by kernel_rfl
  a57 := fun w => by kernel_rfl
  z57 := fun w => by kernel_rfl
  v57 := fun w => by kernel_rfl
  t63 := by kernel_rfl
  a63 := fun w => by kernel_rfl
  z63 := fun w => by kernel_rfl
  v63 := fun w => by kernel_rfl
  t64 := by kernel_rfl
  a64 := fun w => by kernel_rfl
  z64 := fun w => by kernel_rfl
  v64 := fun w => by kernel_rfl
def sortedS_ren : Shelf.Ren := ⟨fun x => match x with | 6 => 80 | 8 => 147 | 9 => 111 | 11 => 227 | x => x, fun x => match x with | 24 => 32 | 26 => 9 | 28 => 207 | 33 => 124 | x => x, fun x => x⟩
theorem sortedS : SlLaysZ.n6 Tryz.prog sortedS_ren where
  mixed := follows_mixed
  f6 := ⟨Tryz.f80.name, by kernel_rfl, by kernel_rfl⟩
  f8 := ⟨Tryz.f147.name, by kernel_rfl, by kernel_rfl⟩
  f11 := ⟨Tryz.f227.name, by kernel_rfl, by kernel_rfl⟩
  t0 := by kernel_rfl
  a0 := fun w => by kernel_rfl
  z0 := fun w => by kernel_rfl
  v0 := fun w => by kernel_rfl
  t24 := by kernel_rfl
  a24 := fun w => by kernel_rfl
  z24 := fun w => by kernel_rfl
  v24 := fun w => by kernel_rfl
  t26 := by kernel_rfl
  a26 := fun w => by kernel_rfl
  z26 := fun w => by kernel_rfl
  v26 := fun w => by kernel_rfl
  t28 := by kernel_rfl
  a28 := fun w => by kernel_rfl
  z28 := fun w => by kernel_rfl
  v28 := fun w => by kernel_rfl
  i26 := by kernel_rfl
def keysS_ren : Shelf.Ren := ⟨fun x => match x with | 10 => 148 | x => x, fun x => match x with | 3 => 109 | 23 => 73 | 26 => 9 | 33 => 124 | x => x, fun x => x⟩
theorem keysS : SlLaysZ.n10 Tryz.prog keysS_ren where
  mixed := follows_mixed
  f10 := ⟨Tryz.f148.name, by kernel_rfl, by kernel_rfl⟩
  t0 := by kernel_rfl
  a0 := fun w => by kernel_rfl
  z0 := fun w => by kernel_rfl
  v0 := fun w => by kernel_rfl
  t4 := by kernel_rfl
  a4 := fun w => by kernel_rfl
  z4 := fun w => by kernel_rfl
  v4 := fun w => by kernel_rfl
  t23 := by kernel_rfl
  a23 := fun w => by kernel_rfl
  z23 := fun w => by kernel_rfl
  v23 := fun w => by kernel_rfl
  t26 := by kernel_rfl
  a26 := fun w => by kernel_rfl
  z26 := fun w => by kernel_rfl
  v26 := fun w => by kernel_rfl
  t33 := by kernel_rfl
  a33 := fun w => by kernel_rfl
  z33 := fun w => by kernel_rfl
  v33 := fun w => by kernel_rfl
def sortStr_ren : Shelf.Ren := ⟨fun x => match x with | 6 => 111 | 8 => 133 | 9 => 178 | 19 => 203 | 20 => 204 | 21 => 260 | 22 => 261 | 23 => 262 | 24 => 263 | 25 => 264 | 26 => 265 | 27 => 266 | 28 => 267 | 29 => 268 | 31 => 295 | 32 => 296 | 36 => 375 | 37 => 376 | 38 => 377 | 39 => 188 | 41 => 437 | x => x, fun x => match x with | 26 => 32 | 27 => 32 | 29 => 9 | 32 => 70 | 35 => 376 | 36 => 377 | 41 => 188 | 44 => 175 | 46 => 30 | 53 => 485 | 57 => 489 | 63 => 571 | 64 => 572 | x => x, fun x => match x with | 0 => 1 | x => x⟩
theorem sortStr : SlLaysM.n6 Tryz.prog sortStr_ren where
  mixed := follows_mixed
  f6 := ⟨Tryz.f111.name, by kernel_rfl, by kernel_rfl⟩
  f8 := by kernel_rfl
  f9 := ⟨Tryz.f178.name, by kernel_rfl, by kernel_rfl⟩
  f19 := by kernel_rfl
  f20 := by kernel_rfl
  f21 := ⟨Tryz.f260.name, by kernel_rfl, by kernel_rfl⟩
  f22 := ⟨Tryz.f261.name, by kernel_rfl, by kernel_rfl⟩
  f23 := ⟨Tryz.f262.name, by kernel_rfl, by kernel_rfl⟩
  f24 := ⟨Tryz.f263.name, by kernel_rfl, by kernel_rfl⟩
  f25 := ⟨Tryz.f264.name, by kernel_rfl, by kernel_rfl⟩
  f26 := ⟨Tryz.f265.name, by kernel_rfl, by kernel_rfl⟩
  f27 := ⟨Tryz.f266.name, by kernel_rfl, by kernel_rfl⟩
  f28 := ⟨Tryz.f267.name, by kernel_rfl, by kernel_rfl⟩
  f29 := ⟨Tryz.f268.name, by kernel_rfl, by kernel_rfl⟩
  f31 := by kernel_rfl
  f32 := by kernel_rfl
  f36 := ⟨Tryz.f375.name, by kernel_rfl, by kernel_rfl⟩
  f37 := ⟨Tryz.f376.name, by kernel_rfl, by kernel_rfl⟩
  f38 := ⟨Tryz.f377.name, by kernel_rfl, by kernel_rfl⟩
  f39 := ⟨Tryz.f188.name, by kernel_rfl, by kernel_rfl⟩
  f41 := ⟨Tryz.f437.name, by kernel_rfl, by kernel_rfl⟩
  t0 := by kernel_rfl
  a0 := fun w => by kernel_rfl
  z0 := fun w => by kernel_rfl
  v0 := fun w => by kernel_rfl
  t3 := by kernel_rfl
  a3 := fun w => by kernel_rfl
  z3 := fun w => by kernel_rfl
  v3 := fun w => by kernel_rfl
  t4 := by kernel_rfl
  a4 := fun w => by kernel_rfl
  z4 := fun w => by kernel_rfl
  v4 := fun w => by kernel_rfl
  t5 := by kernel_rfl
  a5 := fun w => by kernel_rfl
  z5 := fun w => by kernel_rfl
  v5 := fun w => by kernel_rfl
  t9 := by kernel_rfl
  a9 := fun w => by kernel_rfl
  z9 := fun w => by kernel_rfl
  v9 := fun w => by kernel_rfl
  t26 := by kernel_rfl
  a26 := fun w => by kernel_rfl
  z26 := fun w => by kernel_rfl
  v26 := fun w => by kernel_rfl
  t27 := by kernel_rfl
  a27 := fun w => by kernel_rfl
  z27 := fun w => by kernel_rfl
  v27 := fun w => by kernel_rfl
  t29 := by kernel_rfl
  a29 := fun w => by kernel_rfl
  z29 := fun w => by kernel_rfl
  v29 := fun w => by kernel_rfl
  t32 := by kernel_rfl
  a32 := fun w => by kernel_rfl
  z32 := fun w => by kernel_rfl
  v32 := fun w => by kernel_rfl
  t35 := by kernel_rfl
  a35 := fun w => by kernel_rfl
  z35 := fun w => by kernel_rfl
  v35 := fun w => by kernel_rfl
  t36 := by kernel_rfl
  a36 := fun w => by kernel_rfl
  z36 := fun w => by kernel_rfl
  v36 := fun w => by kernel_rfl
  t41 := by kernel_rfl
  a41 := fun w => by kernel_rfl
  z41 := fun w => by kernel_rfl
  v41 := fun w => by kernel_rfl
  t44 := by kernel_rfl
  a44 := fun w => by kernel_rfl
  z44 := fun w => by kernel_rfl
  v44 := fun w => by kernel_rfl
  t46 := by kernel_rfl
  a46 := fun w => by kernel_rfl
  z46 := fun w => by kernel_rfl
  v46 := fun w => by kernel_rfl
  t53 := by kernel_rfl
  a53 := fun w => by kernel_rfl
  z53 := fun w => by kernel_rfl
  v53 := fun w => by kernel_rfl
  t57 := by kernel_rfl
  a57 := fun w => by kernel_rfl
  z57 := fun w => by kernel_rfl
  v57 := fun w => by kernel_rfl
  t63 := by kernel_rfl
  a63 := fun w => by kernel_rfl
  z63 := fun w => by kernel_rfl
  v63 := fun w => by kernel_rfl
  t64 := by kernel_rfl
  a64 := fun w => by kernel_rfl
  z64 := fun w => by kernel_rfl
  v64 := fun w => by kernel_rfl
end Go.Exe
namespace Go.Exe
open Go Go.Proofs Go.Maps Go.MapKept
open Go.WideElems (Fit rd rg pl)

/-- what a value reads as: nothing is looked at -/
def plainR : Value → Option (DataW Unit × List MemPlace) := fun _ => some (.lit (.bool true), [])

theorem keyOf_int {P : Program} {k : TypeId} (hk : P.underlying k = some (.int .i64)) {n : Int} (hw : (Lit.int .i64 n).wf = true) : keyOf P k (.int .i64 n) = some (.int .i64 n) := by
  simp [keyOf, hk, mapKey, hw]

theorem own_int {P : Program} {k : TypeId} (hk : P.underlying k = some (.int .i64)) {w : World} {b c : Nat} {arr : Array MapEntry} (hb : w.heap[b]? = some (.map arr c)) (hst : Stamped arr c) (hsz : arr.size ≤ maxLen)
    {ns : List Int} (hkeys : arr.toList.map (·.key) = ns.map fun n => Value.int .i64 n) (hwf : ∀ n ∈ ns, (Lit.int .i64 n).wf = true) :
    ∃ D0 : DataW Unit, w.ownsMap P k plainR b arr.size D0 ∧ (intKeys D0).Perm ns ∧ Maps.size D0 = arr.size := by
  have hrd : ∀ x ∈ arr.toList, ∃ n ∈ ns, x.key = .int .i64 n ∧ rd P k plainR x = some (.int .i64 n, .lit (.bool true)) := by
    intro x hx
    have h1 : x.key ∈ arr.toList.map (·.key) := List.mem_map.2 ⟨x, hx, rfl⟩
    rw [hkeys] at h1
    obtain ⟨n, hn, e⟩ := List.mem_map.1 h1
    refine ⟨n, hn, e.symm, ?_⟩
    unfold rd
    rw [← e, keyOf_int hk (hwf n hn)]
    rfl
  refine ⟨.map ((arr.toList.map (rg P k plainR)).foldr DataW.insert []), ⟨arr, c, hb, ⟨hsz, hst, fun x hx => ?_⟩, Nat.le_refl _, rfl⟩, ?_, ?_⟩
  · obtain ⟨n, _, _, h⟩ := hrd x hx
    exact ⟨_, h⟩
  · show (((arr.toList.map (rg P k plainR)).foldr DataW.insert []).map fun p => intOf p.1).Perm ns
    refine ((WideShapes.sorted_perm _).map _).trans ?_
    have : (arr.toList.map (rg P k plainR)).map (fun p => intOf p.1) = ns := by
      have key : ∀ (l : List MapEntry) (ms : List Int), l.map (·.key) = ms.map (fun n => Value.int .i64 n) → (∀ x ∈ l, ∃ n, x.key = .int .i64 n ∧ rd P k plainR x = some (.int .i64 n, .lit (.bool true))) →
          (l.map (rg P k plainR)).map (fun p => intOf p.1) = ms := by
        intro l
        induction l with
        | nil => intro ms h _; cases ms <;> first | rfl | cases h
        | cons x l ih =>
          intro ms h hr
          cases ms with
          | nil => cases h
          | cons m ms =>
            simp only [List.map_cons, List.cons.injEq] at h
            obtain ⟨n, e, hx⟩ := hr x (by simp)
            rw [e] at h
            obtain ⟨h1, h2⟩ := h
            cases h1
            rw [List.map_cons, List.map_cons, ih ms h2 (fun y hy => hr y (by simp [hy])), WideElems.rg_of hx]
            rfl
      exact key _ _ hkeys fun x hx => by obtain ⟨n, _, h⟩ := hrd x hx; exact ⟨n, h⟩
    rw [this]
  · show (((arr.toList.map (rg P k plainR)).foldr DataW.insert [])).length = _
    rw [length_sorted]
    simp

end Go.Exe
namespace Go.Exe
open Go Go.Proofs Go.Maps Go.MapKept

/-! ### Sorting -/
theorem ltI_iff {a b : Int} : ltI a b = true ↔ a < b := by rw [ltI_eq]; simp
theorem insI_perm (x : Int) : ∀ l : List Int, (insI x l).Perm (x :: l)
  | [] => .refl _
  | y :: l => by
    unfold insI
    cases ltI x y with
    | true => exact .refl _
    | false => exact ((insI_perm x l).cons y).trans (.swap _ _ _)
theorem isort_perm : ∀ l : List Int, (isort l).Perm l
  | [] => .refl _
  | x :: l => (insI_perm x _).trans ((isort_perm l).cons x)
theorem rises_pairwise : ∀ {l : List Int}, rises l = true → l.Pairwise (· < ·)
  | [], _ => .nil
  | [x], _ => by simp
  | x :: y :: l, h => by
    unfold rises at h
    simp only [Bool.and_eq_true] at h
    have h1 := ltI_iff.1 h.1
    have h2 := rises_pairwise h.2
    refine List.pairwise_cons.2 ⟨fun z hz => ?_, h2⟩
    rcases List.mem_cons.1 hz with rfl | hz
    · exact h1
    · exact Int.lt_trans h1 ((List.pairwise_cons.1 h2).1 z hz)
theorem bornsUp_ok {c : Nat} : ∀ {es : List (SV × SV × Nat)}, bornsUp c es = true → (∀ e ∈ es, e.2.2 < c) ∧ (es.map (·.2.2)).Pairwise (· < ·)
  | [], _ => ⟨by simp, .nil⟩
  | [e], h => by
    unfold bornsUp at h
    have h1 : e.2.2 < c := by simpa [Nat.blt_eq] using h
    exact ⟨by intro x hx; rw [List.mem_singleton.1 hx]; exact h1, by simp⟩
  | e :: e' :: es, h => by
    unfold bornsUp at h
    simp only [Bool.and_eq_true] at h
    have h1 : e.2.2 < e'.2.2 := by simpa [Nat.blt_eq] using h.1
    obtain ⟨h2, h3⟩ := bornsUp_ok h.2
    refine ⟨fun x hx => ?_, List.pairwise_cons.2 ⟨fun z hz => ?_, h3⟩⟩
    · rcases List.mem_cons.1 hx with rfl | hx
      · exact Nat.lt_trans h1 (h2 e' (by simp))
      · exact h2 x hx
    · rw [List.map_cons] at hz h3
      rcases List.mem_cons.1 hz with rfl | hz
      · exact h1
      · exact Nat.lt_trans h1 ((List.pairwise_cons.1 h3).1 z hz)

theorem intsOf_ok {ρ : Ren} : ∀ {es : List (SV × SV × Nat)} {ms : List MapEntry} {ns : List Int}, intsOf es = some ns → ERL ρ es ms →
    ms.map (·.key) = ns.map (fun n => Value.int .i64 n) ∧ (∀ n ∈ ns, (Lit.int .i64 n).wf = true) ∧ ms.map (·.born) = es.map (·.2.2)
  | [], ms, ns, h, he => by
    rw [show ms = [] from he]
    cases h
    exact ⟨rfl, by simp, rfl⟩
  | e :: es, ms, ns, h, he => by
    obtain ⟨m, ms, rfl, h1, h2, h3, h4⟩ := he
    unfold intsOf at h
    split at h
    · rename_i n hn
      split at h
      · rename_i hr
        split at h
        · rename_i r hr2
          cases h
          obtain ⟨q1, q2, q3⟩ := intsOf_ok hr2 h4
          rw [asInt_iff.1 hn, VR.int_iff] at h1
          refine ⟨by simp [h1, q1], fun k hk => ?_, by simp [h3, q3]⟩
          rcases List.mem_cons.1 hk with hk | hk
          · rw [hk]
            unfold inI64 at hr
            simp only [Bool.and_eq_true, Bool.not_eq_true'] at hr
            have a1 : ¬ n < -9223372036854775808 := fun hh => by rw [ltI_iff.2 hh] at hr; exact absurd hr.1 (by simp)
            have a2 := ltI_iff.1 hr.2
            have e1 : IntKind.i64.min = -9223372036854775808 := rfl
            have e2 : IntKind.i64.max = 9223372036854775807 := rfl
            show (decide (IntKind.i64.min ≤ n) && decide (n ≤ IntKind.i64.max)) = true
            rw [e1, e2]
            simp
            omega
          · exact q2 k hk
        · cases h
      · cases h
    · cases h

theorem isort_eq {ns ss : List Int} (hp : ss.Perm ns) (hr : rises (isort ns) = true) : ss.mergeSort (fun x y => decide (x ≤ y)) = isort ns := by
  have tr : ∀ a b c : Int, leI a b = true → leI b c = true → leI a c = true := fun a b c h1 h2 => by simp only [leI, decide_eq_true_eq] at *; exact Int.le_trans h1 h2
  have to : ∀ a b : Int, (leI a b || leI b a) = true := fun a b => by simp only [leI, Bool.or_eq_true, decide_eq_true_eq]; exact Int.le_total a b
  refine List.Perm.eq_of_pairwise (le := fun a b => leI a b = true) (fun a b _ _ h1 h2 => ?_) (List.pairwise_mergeSort tr to ss) ((rises_pairwise hr).imp fun h => ?_) (((List.mergeSort_perm ss leI).trans hp).trans (isort_perm ns).symm)
  · simp only [leI, decide_eq_true_eq] at h1 h2
    exact Int.le_antisymm h1 h2
  · simp only [leI, decide_eq_true_eq]
    exact Int.le_of_lt h

theorem mkInts_ok (ρ : Ren) : ∀ l : List Int, VRL ρ (mkInts l) (l.map fun n => Value.int .i64 n) ∧ lenV (mkInts l) = l.length
  | [] => ⟨.nil, rfl⟩
  | n :: l => ⟨.cons (VR.int_iff.2 rfl) (mkInts_ok ρ l).1, by show Nat.succ (lenV (mkInts l)) = _; rw [(mkInts_ok ρ l).2]; rfl⟩

/-- slices.Sort's two contracts at this program, at the fence that asks nothing. -/
theorem sortsInt (m : Nat) : AnyZI.SortsIn Tryz.prog sortedI_ren Fence.wide m :=
  ⟨fun blk off cap ss W hH hblk hsz => callsIn_wide.2 (AnyM.slices_Sort_int sortInt blk off cap ss W hH hblk hsz),
   fun p cap W => callsIn_wide.2 (AnyM.slices_Sort_int_none sortInt p cap W)⟩

end Go.Exe
namespace Go.Exe
open Go Go.Proofs Go.Maps Go.MapKept Go.RowKit

theorem seqM_ok {C : Ctx} {ρ : Ren} {s : ST} {w : World} (hok : Ok C ρ s w) {f : Nat} {x : SV} {es : List (SV × SV × Nat)} {c : Nat} (h : seqM f x s = some (es, c)) {u : Value} (hx : VR ρ x u) :
    ∃ Bm b arr, u = .func (.func f) #[] #[.pointer (some ⟨Bm, 0, none⟩)] ∧ Bm < w.heap.size ∧ w.cell? ⟨Bm, 0, none⟩ = some (.map (some b)) ∧ w.heap[b]? = some (.map arr c) ∧ ERL ρ es arr.toList := by
  unfold seqM at h
  split at h
  · rename_i g y hf
    split at h
    · rename_i hg
      have hg := Nat.eq_of_beq_eq_true hg
      subst hg
      split at h
      · rename_i b hy
        split at h
        · rename_i t m hct
          split at h
          · rename_i ht
            have ht := Nat.eq_of_beq_eq_true ht
            split at h
            · rename_i j hj
              rw [asFn_iff.1 hf, VR.fn_iff] at hx
              obtain ⟨fs, cs, rfl, rf, rc⟩ := hx
              have hfs := VRL.nil_iff.1 rf
              obtain ⟨v, hcs, rv⟩ := rc.one
              rw [asPtr_iff.1 hy, VR.ptr_iff] at rv
              obtain ⟨p, hp, rfl⟩ := rv
              obtain ⟨a, ha, g1, g2, g3, g4, g5⟩ := hok.cellsT hp hct
              obtain ⟨q1, q2⟩ := g5 ht
              have hco : s.cellsOf b = some [m] := asCells_iff.2 ⟨t, asCellsT_iff.1 hct⟩
              obtain ⟨mv, k1, k2, _⟩ := hok.cellAt (o := 0) (x := m) hp (readOf_cells hco) rfl
              rw [asMp_iff.1 hj, VR.mp_iff] at k2
              obtain ⟨q, hq, rfl⟩ := k2
              obtain ⟨arr, z1, z2⟩ := hok.mapAt hq h
              refine ⟨p.blk, q.blk, arr, ?_, ?_, ?_, z1, z2⟩
              · rw [hfs, hcs, q1]
                rfl
              · exact (Array.getElem?_eq_some_iff.1 ha).1
              · rw [q1] at k1
                exact k1
            · cases h
          · cases h
        · cases h
      · cases h
    · cases h
  · cases h

/-- nothing that lay before has turned -/
theorem at_below {w w' : World} (hb : Below w.heap.size w w') {k : Nat} {o : Obj} (h : w.heap[k]? = some o) : w'.heap[k]? = some o := by
  rw [hb.block k (Array.getElem?_eq_some_iff.1 h).1]
  exact h
theorem Ok.below {C : Ctx} {ρ : Ren} {s : ST} {w w' : World} (h : Ok C ρ s w) (hb : Below w.heap.size w w') : Ok C ρ s w' := by
  refine ⟨hb.os.trans h.os, hb.tape.trans h.tape, hb.output.trans h.output, fun j p hp hl => ?_, h.inj, fun b o hF => ?_, h.dom, h.bound, fun j p o hp hl hC => at_below hb (h.itr j p o hp hl hC)⟩
  · obtain ⟨o, ho, hr⟩ := h.obj j p hp hl
    exact ⟨o, at_below hb ho, hr⟩
  · obtain ⟨h1, h2⟩ := h.far b o hF
    exact ⟨at_below hb h1, h2⟩

theorem fs149 : fsF 149 = some Tryz.f149 := by kernel_rfl
theorem fs140 : fsF 140 = some Tryz.f140 := by kernel_rfl
theorem fs229 : fsF 229 = some Tryz.f229 := by kernel_rfl
theorem call149 (xs : Array Value) (w : World) : (callFunc 149 xs).run Tryz.prog w = .ok (.enter 149 xs) w := by
  have hb : ∃ c, Tryz.f149.body = some c := ⟨_, rfl⟩
  obtain ⟨c, hb⟩ := hb
  exact callFunc_body fs149 hb xs w
theorem call140 (xs : Array Value) (w : World) : (callFunc 140 xs).run Tryz.prog w = .ok (.enter 140 xs) w := by
  have hb : ∃ c, Tryz.f140.body = some c := ⟨_, rfl⟩
  obtain ⟨c, hb⟩ := hb
  exact callFunc_body fs140 hb xs w
theorem call229 (xs : Array Value) (w : World) : (callFunc 229 xs).run Tryz.prog w = .ok (.enter 229 xs) w := by
  have hb : ∃ c, Tryz.f229.body = some c := ⟨_, rfl⟩
  obtain ⟨c, hb⟩ := hb
  exact callFunc_body fs229 hb xs w

theorem sorted149 {Bm b c : Nat} {arr : Array MapEntry} {w : World} {ns : List Int} (hBm : Bm < w.heap.size) (hm : w.cell? ⟨Bm, 0, none⟩ = some (.map (some b))) (hb : w.heap[b]? = some (.map arr c)) (hst : Stamped arr c) (hsz : arr.size ≤ 65536)
    (hkeys : arr.toList.map (·.key) = ns.map fun n => Value.int .i64 n) (hwf : ∀ n ∈ ns, (Lit.int .i64 n).wf = true) :
    Calls Tryz.prog 149 #[.func (.func 229) #[] #[.pointer (some ⟨Bm, 0, none⟩)]] w fun e w' => ∃ (v : Value) (ss : List Int), e = .returned v ∧ ss.Perm ns ∧
      w'.ownsRow w.heap.size 3 1 v ss.length ((ss.mergeSort (fun x y => decide (x ≤ y))).map encZ) ∧ (v = .slice none 0 0 ↔ ss = []) ∧ Below w.heap.size w w' := by
  have hk3 : Tryz.prog.underlying 3 = some (.int .i64) := Tryz.underlying3
  have hmax : (65536 : Nat) ≤ maxLen := by unfold maxLen; decide
  obtain ⟨D0, hown, hperm, hsize⟩ := own_int hk3 hb hst (Nat.le_trans hsz hmax) hkeys hwf
  have hseq := AnyZI.keys_gives keysI Fence.wide 2 trivial rfl (by omega) Bm b arr.size D0 w hBm hm hown
  have cS := AnyZI.sorted_in sortedI Fence.wide 5 trivial trivial trivial trivial rfl (by omega) (sortsInt _) call140 229 #[.pointer (some ⟨Bm, 0, none⟩)] trivial call229 _ _ (by rw [hsize]; exact Nat.le_trans hsz hmax) (by rw [hsize]; omega) w hseq
  refine (callsIn_wide.1 cS).mono ?_
  rintro e w' ⟨v, ss, rfl, hS, hrow, hnil, hbl⟩
  exact ⟨v, ss, rfl, hS.trans hperm, hrow, hnil, hbl⟩

theorem prim149 (K : CallF) : CallOk Tryz.prog 149 (sortedIP 229 3 K) := by
  intro args s v s' h C ρ xs w hargs hok
  refine .inr ⟨call149 xs w, ?_⟩
  unfold sortedIP at h
  split at h
  rotate_left
  · cases h
  rename_i x
  obtain ⟨u, e1, r1⟩ := hargs.one
  have e2 : xs = #[u] := Array.ext' e1
  subst e2
  split at h
  rotate_left
  · cases h
  rename_i es c hseq
  obtain ⟨Bm, b, arr, rfl, hBm, hm, hb, hms⟩ := seqM_ok hok hseq r1
  split at h
  rotate_left
  · cases h
  rename_i ns hns
  obtain ⟨q1, q2, q3⟩ := intsOf_ok hns hms
  dsimp only at h
  split at h
  rotate_left
  · cases h
  rename_i hcond
  simp only [Bool.and_eq_true] at hcond
  obtain ⟨c1, c2, c3⟩ := hcond
  have c3 := Nat.le_of_ble_eq_true c3
  rw [(mkInts_ok ρ _).2, (isort_perm ns).length_eq] at c3
  obtain ⟨b1, b2⟩ := bornsUp_ok c2
  have hlen : arr.size = ns.length := by
    have := congrArg List.length q1
    simpa using this
  have hnd : ns.Nodup := (isort_perm ns).nodup_iff.1 ((rises_pairwise c1).imp fun hh => Int.ne_of_lt hh)
  have hst : Stamped arr c := by
    refine ⟨fun m hm' => ?_, ?_, ?_⟩
    · have h1 : m.born ∈ arr.toList.map (·.born) := List.mem_map.2 ⟨m, hm', rfl⟩
      rw [q3] at h1
      obtain ⟨e, he, h2⟩ := List.mem_map.1 h1
      rw [← h2]
      exact b1 e he
    · rw [q3]
      exact b2.imp fun hh => Nat.ne_of_lt hh
    · rw [q1]
      exact (List.pairwise_map.2 (hnd.imp fun hne e => hne (by injection e)))
  refine (sorted149 hBm hm hb hst (by omega) q1 q2).mono ?_
  rintro e w' ⟨v', ss, rfl, hS, hrow, hnil, hbl⟩
  rw [isort_eq hS c1] at hrow
  have hok' := hok.below hbl
  have hsl : ss.length = (isort ns).length := (hS.trans (isort_perm ns).symm).length_eq
  split at h
  · rename_i hr0
    cases h
    have hss : ss = [] := List.length_eq_zero_iff.1 (by rw [hsl, hr0]; rfl)
    exact ⟨v', ρ, rfl, Ext.refl _ _, VR.nils_iff.2 (hnil.2 hss), hok'⟩
  · rename_i hr0
    obtain ⟨hn, rfl, rfl⟩ := new_ok h
    obtain ⟨hl1, ⟨rfl, _⟩ | ⟨g, cap, cur, rfl, hg, hgo, hnc, _, hcs, htake⟩⟩ := hrow
    · exact absurd (by rw [hnil.1 rfl] at hsl; exact List.length_eq_zero_iff.1 hsl.symm) hr0
    have henc : (isort ns).map encZ = (isort ns).map fun n => Value.int .i64 n := rfl
    rw [henc] at htake
    have hml : (mkInts (isort ns)).length = ss.length := by rw [← lenV_eq, (mkInts_ok ρ _).2, hsl]
    have hcs' : cur.size = cap := by omega
    have hadopt := hok'.adopt (p := ⟨g, 0, cur.size⟩) (x := .cells (Nat.mul 2 3) (mkInts (isort ns))) (o := .cells cur 3 (0, 0)) hn rfl rfl rfl (fun b o _ hbo => hbo) hgo
      (fun i q hq hi => by have := hok.blk_lt hq hi; show q.blk ≠ g; omega)
      (fun k o hF => by
        have h1 := (hok.far k o hF).1
        have := (Array.getElem?_eq_some_iff.1 h1).1
        show k ≠ g
        omega)
      (by
        refine ⟨cur, rfl, Nat.le_refl _, ?_, ?_, ?_, fun hodd => absurd hodd (by decide)⟩
        · show 0 + _ ≤ cur.size
          rw [hml]
          omega
        · show VRL _ _ ((cur.toList.drop 0).take _)
          rw [List.drop_zero, hml, show ss.length = ss.length * 1 from (Nat.mul_one _).symm, htake]
          exact (mkInts_ok _ _).1
        · show ∀ y ∈ (cur.toList.drop 0).take _, _
          rw [List.drop_zero, hml, show ss.length = ss.length * 1 from (Nat.mul_one _).symm, htake]
          intro y hy
          obtain ⟨n, _, rfl⟩ := List.mem_map.1 hy
          rfl) rfl
    refine ⟨_, _, rfl, Ext.alloc hok hn _ _, ?_, hadopt⟩
    rw [(mkInts_ok ρ _).2, ← hsl]
    exact VR.sx_iff.2 ⟨_, _, _, Ren.up_same _ _ _, rfl, .inl ⟨rfl, hnc, by simp; omega⟩⟩

end Go.Exe
namespace Go.Exe
open Go Go.Proofs Go.Maps Go.MapKept Go.RowKit
open Go.WideElems (Fit rd rg pl)

def toU (l : List Nat) : List UInt8 := l.map UInt8.ofNat

theorem own_str {P : Program} {k : TypeId} (hk : P.underlying k = some .string) {w : World} {b c : Nat} {arr : Array MapEntry} (hb : w.heap[b]? = some (.map arr c)) (hst : Stamped arr c) (hsz : arr.size ≤ maxLen)
    {ns : List (List UInt8)} (hkeys : arr.toList.map (·.key) = ns.map encStr) (hwf : ∀ n ∈ ns, n.length ≤ maxLen) :
    ∃ D0 : DataW Unit, w.ownsMap P k plainR b arr.size D0 ∧ (strKeys D0).Perm ns ∧ Maps.size D0 = arr.size := by
  have hrd : ∀ x ∈ arr.toList, ∃ n ∈ ns, x.key = encStr n ∧ rd P k plainR x = some (.string n, .lit (.bool true)) := by
    intro x hx
    have h1 : x.key ∈ arr.toList.map (·.key) := List.mem_map.2 ⟨x, hx, rfl⟩
    rw [hkeys] at h1
    obtain ⟨n, hn, e⟩ := List.mem_map.1 h1
    refine ⟨n, hn, e.symm, ?_⟩
    unfold rd
    rw [← e]
    have h2 : keyOf P k (encStr n) = some (.string n) := by
      have h3 := Go.WideMaps.keyOf_string_mk hk (s := ⟨n.toArray⟩) (by show n.toArray.size ≤ _; simpa using hwf n hn)
      exact h3
    rw [h2]
    rfl
  refine ⟨.map ((arr.toList.map (rg P k plainR)).foldr DataW.insert []), ⟨arr, c, hb, ⟨hsz, hst, fun x hx => ?_⟩, Nat.le_refl _, rfl⟩, ?_, ?_⟩
  · obtain ⟨n, _, _, h⟩ := hrd x hx
    exact ⟨_, h⟩
  · show (((arr.toList.map (rg P k plainR)).foldr DataW.insert []).map fun p => Go.strOf p.1).Perm ns
    refine ((WideShapes.sorted_perm _).map _).trans ?_
    have : (arr.toList.map (rg P k plainR)).map (fun p => Go.strOf p.1) = ns := by
      have key : ∀ (l : List MapEntry) (ms : List (List UInt8)), l.map (·.key) = ms.map encStr → (∀ x ∈ l, ∃ n, x.key = encStr n ∧ rd P k plainR x = some (.string n, .lit (.bool true))) →
          (l.map (rg P k plainR)).map (fun p => Go.strOf p.1) = ms := by
        intro l
        induction l with
        | nil => intro ms h _; cases ms <;> first | rfl | cases h
        | cons x l ih =>
          intro ms h hr
          cases ms with
          | nil => cases h
          | cons m ms =>
            simp only [List.map_cons, List.cons.injEq] at h
            obtain ⟨n, e, hx⟩ := hr x (by simp)
            rw [e] at h
            obtain ⟨h1, h2⟩ := h
            have h3 := encStr_inj h1
            subst h3
            rw [List.map_cons, List.map_cons, ih ms h2 (fun y hy => hr y (by simp [hy])), WideElems.rg_of hx]
            rfl
      exact key _ _ hkeys fun x hx => by obtain ⟨n, _, h⟩ := hrd x hx; exact ⟨n, h⟩
    rw [this]
  · show (((arr.toList.map (rg P k plainR)).foldr DataW.insert [])).length = _
    rw [length_sorted]
    simp

/-! ### Sorting -/
theorem ltL_lt {a b : List Nat} (ha : ∀ x ∈ a, x < 256) (hb : ∀ x ∈ b, x < 256) : ltL a b = true ↔ toU a < toU b := by
  rw [ltL_eq ha hb, bytesLess_eq]
  simp [toU]
theorem insL_perm (x : List Nat) : ∀ l : List (List Nat), (insL x l).Perm (x :: l)
  | [] => .refl _
  | y :: l => by
    unfold insL
    cases ltL x y with
    | true => exact .refl _
    | false => exact ((insL_perm x l).cons y).trans (.swap _ _ _)
theorem isortL_perm : ∀ l : List (List Nat), (isortL l).Perm l
  | [] => .refl _
  | x :: l => (insL_perm x _).trans ((isortL_perm l).cons x)
theorem risesL_pairwise : ∀ {l : List (List Nat)}, (∀ x ∈ l, ∀ b ∈ x, b < 256) → risesL l = true → (l.map toU).Pairwise (· < ·)
  | [], _, _ => .nil
  | [x], _, _ => by simp
  | x :: y :: l, hl, h => by
    unfold risesL at h
    simp only [Bool.and_eq_true] at h
    have h1 := (ltL_lt (hl x (by simp)) (hl y (by simp))).1 h.1
    have h2 := risesL_pairwise (fun z hz => hl z (by simp [List.mem_cons.1 hz])) h.2
    rw [List.map_cons]
    refine List.pairwise_cons.2 ⟨fun z hz => ?_, h2⟩
    rw [List.map_cons] at hz h2
    rcases List.mem_cons.1 hz with rfl | hz
    · exact h1
    · exact List.lt_trans h1 ((List.pairwise_cons.1 h2).1 z hz)

theorem isortL_eq {ns : List (List Nat)} (hb : ∀ x ∈ ns, ∀ b ∈ x, b < 256) {ss : List (List UInt8)} (hp : ss.Perm (ns.map toU)) (hr : risesL (isortL ns) = true) : ss.mergeSort (fun x y => decide (x ≤ y)) = (isortL ns).map toU := by
  have tr : ∀ a b c : List UInt8, leB a b = true → leB b c = true → leB a c = true := fun a b c h1 h2 => by simp only [leB, decide_eq_true_eq] at *; exact List.le_trans h1 h2
  have to : ∀ a b : List UInt8, (leB a b || leB b a) = true := fun a b => by simp only [leB, Bool.or_eq_true, decide_eq_true_eq]; exact List.le_total a b
  have hb' : ∀ x ∈ isortL ns, ∀ b ∈ x, b < 256 := fun x hx => hb x ((isortL_perm ns).mem_iff.1 hx)
  refine List.Perm.eq_of_pairwise (le := fun a b => leB a b = true) (fun a b _ _ h1 h2 => ?_) (List.pairwise_mergeSort tr to ss) ((risesL_pairwise hb' hr).imp fun h => ?_) (((List.mergeSort_perm ss leB).trans hp).trans ((isortL_perm ns).map toU).symm)
  · simp only [leB, decide_eq_true_eq] at h1 h2
    exact List.le_antisymm h1 h2
  · simp only [leB, decide_eq_true_eq]
    exact List.le_of_lt h

theorem strsOf_ok {ρ : Ren} : ∀ {es : List (SV × SV × Nat)} {ms : List MapEntry} {ns : List (List Nat)}, strsOf es = some ns → ERL ρ es ms →
    ms.map (·.key) = (ns.map toU).map encStr ∧ (∀ n ∈ ns, (∀ b ∈ n, b < 256) ∧ n.length ≤ 65536) ∧ ms.map (·.born) = es.map (·.2.2)
  | [], ms, ns, h, he => by
    rw [show ms = [] from he]
    cases h
    exact ⟨rfl, by simp, rfl⟩
  | e :: es, ms, ns, h, he => by
    obtain ⟨m, ms, rfl, h1, h2, h3, h4⟩ := he
    unfold strsOf at h
    split at h
    · rename_i n hn
      split at h
      · rename_i hr
        split at h
        · rename_i r hr2
          cases h
          obtain ⟨q1, q2, q3⟩ := strsOf_ok hr2 h4
          rw [asStr_iff.1 hn, VR.str_iff] at h1
          refine ⟨by simp [h1.1, q1, Go.Exe.strOf, toU], fun k hk => ?_, by simp [h3, q3]⟩
          rcases List.mem_cons.1 hk with hk | hk
          · rw [hk]
            have hr := Nat.le_of_ble_eq_true hr
            rw [lenL_eq] at hr
            exact ⟨h1.2, hr⟩
          · exact q2 k hk
        · cases h
      · cases h
    · cases h

theorem mkStrs_ok (ρ : Ren) : ∀ l : List (List Nat), (∀ x ∈ l, ∀ b ∈ x, b < 256) → VRL ρ (mkStrs l) ((l.map toU).map encStr) ∧ lenV (mkStrs l) = l.length
  | [], _ => ⟨.nil, rfl⟩
  | n :: l, h => by
    obtain ⟨h1, h2⟩ := mkStrs_ok ρ l fun x hx => h x (by simp [hx])
    exact ⟨.cons (VR.str_iff.2 ⟨rfl, h n (by simp)⟩) h1, by show Nat.succ (lenV (mkStrs l)) = _; rw [h2]; rfl⟩

/-- slices.Sort's two contracts at this program, at the fence that asks nothing. -/
theorem sortsStr (m : Nat) : AnyZ.SortsIn Tryz.prog sortedS_ren Fence.wide m :=
  ⟨fun blk off cap ss W hH hblk hsz => callsIn_wide.2 (AnyM.slices_Sort_string sortStr blk off cap ss W hH hblk hsz),
   fun p cap W => callsIn_wide.2 (AnyM.slices_Sort_string_none sortStr p cap W)⟩

theorem fs80 : fsF 80 = some Tryz.f80 := by kernel_rfl
theorem fs111 : fsF 111 = some Tryz.f111 := by kernel_rfl
theorem fs148 : fsF 148 = some Tryz.f148 := by kernel_rfl
theorem call80 (xs : Array Value) (w : World) : (callFunc 80 xs).run Tryz.prog w = .ok (.enter 80 xs) w := by
  have hb : ∃ c, Tryz.f80.body = some c := ⟨_, rfl⟩
  obtain ⟨c, hb⟩ := hb
  exact callFunc_body fs80 hb xs w
theorem call111 (xs : Array Value) (w : World) : (callFunc 111 xs).run Tryz.prog w = .ok (.enter 111 xs) w := by
  have hb : ∃ c, Tryz.f111.body = some c := ⟨_, rfl⟩
  obtain ⟨c, hb⟩ := hb
  exact callFunc_body fs111 hb xs w
theorem call148 (xs : Array Value) (w : World) : (callFunc 148 xs).run Tryz.prog w = .ok (.enter 148 xs) w := by
  have hb : ∃ c, Tryz.f148.body = some c := ⟨_, rfl⟩
  obtain ⟨c, hb⟩ := hb
  exact callFunc_body fs148 hb xs w

theorem sorted80 {Bm b c : Nat} {arr : Array MapEntry} {w : World} {ns : List (List UInt8)} (hBm : Bm < w.heap.size) (hm : w.cell? ⟨Bm, 0, none⟩ = some (.map (some b))) (hb : w.heap[b]? = some (.map arr c)) (hst : Stamped arr c) (hsz : arr.size ≤ 65536)
    (hkeys : arr.toList.map (·.key) = ns.map encStr) (hwf : ∀ n ∈ ns, n.length ≤ 65536) :
    Calls Tryz.prog 80 #[.func (.func 148) #[] #[.pointer (some ⟨Bm, 0, none⟩)]] w fun e w' => ∃ (v : Value) (ss : List (List UInt8)), e = .returned v ∧ ss.Perm ns ∧
      w'.ownsRow w.heap.size 9 1 v ss.length ((ss.mergeSort (fun x y => decide (x ≤ y))).map encStr) ∧ (v = .slice none 0 0 ↔ ss = []) ∧ Below w.heap.size w w' := by
  have hk9 : Tryz.prog.underlying 9 = some .string := Tryz.underlying9
  have hmax : (65536 : Nat) ≤ maxLen := by unfold maxLen; decide
  obtain ⟨D0, hown, hperm, hsize⟩ := own_str hk9 hb hst (Nat.le_trans hsz hmax) hkeys (fun n hn => Nat.le_trans (hwf n hn) hmax)
  have hseq := AnyZ.keys_gives keysS Fence.wide 2 trivial rfl (by omega) Bm b arr.size D0 w hBm hm hown
  have cS := AnyZ.sorted_in sortedS Fence.wide 5 trivial trivial trivial trivial rfl (by omega) (sortsStr _) call111 148 #[.pointer (some ⟨Bm, 0, none⟩)] trivial call148 _ _ (by rw [hsize]; exact Nat.le_trans hsz hmax) (by rw [hsize]; omega) w hseq
  refine (callsIn_wide.1 cS).mono ?_
  rintro e w' ⟨v, ss, rfl, hS, hrow, hnil, hbl⟩
  exact ⟨v, ss, rfl, hS.trans hperm, hrow, hnil, hbl⟩

theorem prim80 (K : CallF) : CallOk Tryz.prog 80 (sortedSP 148 9 K) := by
  intro args s v s' h C ρ xs w hargs hok
  refine .inr ⟨call80 xs w, ?_⟩
  unfold sortedSP at h
  split at h
  rotate_left
  · cases h
  rename_i x
  obtain ⟨u, e1, r1⟩ := hargs.one
  have e2 : xs = #[u] := Array.ext' e1
  subst e2
  split at h
  rotate_left
  · cases h
  rename_i es c hseq
  obtain ⟨Bm, b, arr, rfl, hBm, hm, hb, hms⟩ := seqM_ok hok hseq r1
  split at h
  rotate_left
  · cases h
  rename_i ns hns
  obtain ⟨q1, q2, q3⟩ := strsOf_ok hns hms
  dsimp only at h
  split at h
  rotate_left
  · cases h
  rename_i hcond
  simp only [Bool.and_eq_true] at hcond
  obtain ⟨c1, c2, c3⟩ := hcond
  have hby : ∀ x ∈ ns, ∀ b ∈ x, b < 256 := fun x hx => (q2 x hx).1
  have hby' : ∀ x ∈ isortL ns, ∀ b ∈ x, b < 256 := fun x hx => hby x ((isortL_perm ns).mem_iff.1 hx)
  have c3 := Nat.le_of_ble_eq_true c3
  rw [(mkStrs_ok ρ _ hby').2, (isortL_perm ns).length_eq] at c3
  obtain ⟨b1, b2⟩ := bornsUp_ok c2
  have hlen : arr.size = ns.length := by
    have := congrArg List.length q1
    simpa using this
  have hnd : (ns.map toU).Nodup := ((isortL_perm ns).map toU).nodup_iff.1 ((risesL_pairwise hby' c1).imp fun hh e => by rw [e] at hh; exact List.lt_irrefl _ hh)
  have hst : Stamped arr c := by
    refine ⟨fun m hm' => ?_, ?_, ?_⟩
    · have h1 : m.born ∈ arr.toList.map (·.born) := List.mem_map.2 ⟨m, hm', rfl⟩
      rw [q3] at h1
      obtain ⟨e, he, h2⟩ := List.mem_map.1 h1
      rw [← h2]
      exact b1 e he
    · rw [q3]
      exact b2.imp fun hh => Nat.ne_of_lt hh
    · rw [q1]
      exact (List.pairwise_map.2 (hnd.imp fun hne e => hne (encStr_inj e)))
  refine (sorted80 hBm hm hb hst (by omega) q1 (fun n hn => by obtain ⟨m, hm', rfl⟩ := List.mem_map.1 hn; simpa [toU] using (q2 m hm').2)).mono ?_
  rintro e w' ⟨v', ss, rfl, hS, hrow, hnil, hbl⟩
  rw [isortL_eq hby hS c1] at hrow
  have hok' := hok.below hbl
  have hsl : ss.length = (isortL ns).length := by
    have h1 := hS.length_eq
    rw [List.length_map] at h1
    rw [h1, (isortL_perm ns).length_eq]
  split at h
  · rename_i hr0
    cases h
    have hss : ss = [] := List.length_eq_zero_iff.1 (by rw [hsl, hr0]; rfl)
    exact ⟨v', ρ, rfl, Ext.refl _ _, VR.nils_iff.2 (hnil.2 hss), hok'⟩
  · rename_i hr0
    obtain ⟨hn, rfl, rfl⟩ := new_ok h
    obtain ⟨hl1, ⟨rfl, _⟩ | ⟨g, cap, cur, rfl, hg, hgo, hnc, _, hcs, htake⟩⟩ := hrow
    · exact absurd (by rw [hnil.1 rfl] at hsl; exact List.length_eq_zero_iff.1 hsl.symm) hr0
    have hml : (mkStrs (isortL ns)).length = ss.length := by rw [← lenV_eq, (mkStrs_ok ρ _ hby').2, hsl]
    have hcs' : cur.size = cap := by omega
    have hadopt := hok'.adopt (p := ⟨g, 0, cur.size⟩) (x := .cells (Nat.mul 2 9) (mkStrs (isortL ns))) (o := .cells cur 9 (0, 0)) hn rfl rfl rfl (fun b o _ hbo => hbo) hgo
      (fun i q hq hi => by have := hok.blk_lt hq hi; show q.blk ≠ g; omega)
      (fun k o hF => by
        have h1 := (hok.far k o hF).1
        have := (Array.getElem?_eq_some_iff.1 h1).1
        show k ≠ g
        omega)
      (by
        refine ⟨cur, rfl, Nat.le_refl _, ?_, ?_, ?_, fun hodd => absurd hodd (by decide)⟩
        · show 0 + _ ≤ cur.size
          rw [hml]
          omega
        · show VRL _ _ ((cur.toList.drop 0).take _)
          rw [List.drop_zero, hml, show ss.length = ss.length * 1 from (Nat.mul_one _).symm, htake]
          exact (mkStrs_ok _ _ hby').1
        · show ∀ y ∈ (cur.toList.drop 0).take _, _
          rw [List.drop_zero, hml, show ss.length = ss.length * 1 from (Nat.mul_one _).symm, htake]
          intro y hy
          obtain ⟨n, _, rfl⟩ := List.mem_map.1 hy
          rfl) rfl
    refine ⟨_, _, rfl, Ext.alloc hok hn _ _, ?_, hadopt⟩
    rw [(mkStrs_ok ρ _ hby').2, ← hsl]
    exact VR.sx_iff.2 ⟨_, _, _, Ren.up_same _ _ _, rfl, .inl ⟨rfl, hnc, by simp; omega⟩⟩

end Go.Exe
namespace Go.Exe
open Go Go.Proofs Go.Maps Go.MapKept Go.RowKit Go.Sort

theorem insI_sorted {x : Int} : ∀ {l : List Int}, l.Pairwise (· ≤ ·) → (insI x l).Pairwise (· ≤ ·)
  | [], _ => by simp [insI]
  | y :: l, h => by
    unfold insI
    obtain ⟨h1, h2⟩ := List.pairwise_cons.1 h
    cases hxy : ltI x y with
    | true =>
      have h3 := ltI_iff.1 hxy
      refine List.pairwise_cons.2 ⟨fun z hz => ?_, h⟩
      rcases List.mem_cons.1 hz with rfl | hz
      · omega
      · have := h1 z hz; omega
    | false =>
      have h3 : ¬ x < y := fun hh => by rw [ltI_iff.2 hh] at hxy; cases hxy
      refine List.pairwise_cons.2 ⟨fun z hz => ?_, insI_sorted h2⟩
      rcases List.mem_cons.1 ((insI_perm x l).mem_iff.1 hz) with rfl | hz
      · omega
      · exact h1 z hz
theorem isort_sorted : ∀ l : List Int, (isort l).Pairwise (· ≤ ·)
  | [] => .nil
  | _ :: l => insI_sorted (isort_sorted l)
theorem isort_merge (ns : List Int) : ns.mergeSort (fun x y => decide (x ≤ y)) = isort ns := by
  have tr : ∀ a b c : Int, leI a b = true → leI b c = true → leI a c = true := fun a b c h1 h2 => by simp only [leI, decide_eq_true_eq] at *; exact Int.le_trans h1 h2
  have to : ∀ a b : Int, (leI a b || leI b a) = true := fun a b => by simp only [leI, Bool.or_eq_true, decide_eq_true_eq]; exact Int.le_total a b
  refine List.Perm.eq_of_pairwise (le := fun a b => leI a b = true) (fun a b _ _ h1 h2 => ?_) (List.pairwise_mergeSort tr to ns) ((isort_sorted ns).imp fun h => ?_) ((List.mergeSort_perm ns leI).trans (isort_perm ns).symm)
  · simp only [leI, decide_eq_true_eq] at h1 h2
    exact Int.le_antisymm h1 h2
  · simp only [leI, decide_eq_true_eq]
    exact h

theorem intsL_ok {ρ : Ren} : ∀ {l : List SV} {ns : List Int} {vs : List Value}, intsL l = some ns → VRL ρ l vs → vs = ns.map (fun n => Value.int .i64 n)
  | [], ns, vs, h, hv => by
    cases h
    rw [VRL.nil_iff.1 hv]; rfl
  | x :: l, ns, vs, h, hv => by
    obtain ⟨v, vs, rfl, h1, h2⟩ := VRL.cons_iff.1 hv
    unfold intsL at h
    split at h
    · rename_i n hn
      split at h
      · rename_i r hr
        cases h
        rw [asInt_iff.1 hn, VR.int_iff] at h1
        rw [h1, intsL_ok hr h2]; rfl
      · cases h
    · cases h

theorem heap_sorted_at {w : World} {g n off : Nat} {os : Array Obj} {cur : Array Value} {e : TypeId} {fr : Nat × Nat} (d : Array Int) (hb : w.heap[g]? = some (.cells cur e fr)) :
    (grow (putRow encZ (Sort.ahead w n) g off d) os).heap[g]? = some (.cells (putCells encZ off d cur) e fr) := by
  have hg : g < w.heap.size := (Array.getElem?_eq_some_iff.1 hb).1
  rw [heap_grow_old _ _ (by simpa using hg)]
  simp [putRow, mapBlock, Sort.ahead, Array.getElem?_modify, hb, onCells]
theorem heap_other_at {w : World} {g n off k : Nat} {os : Array Obj} (d : Array Int) (hk : k < w.heap.size) (hne : k ≠ g) :
    (grow (putRow encZ (Sort.ahead w n) g off d) os).heap[k]? = w.heap[k]? := by
  rw [heap_grow_old _ _ (by simpa using hk)]
  have : g ≠ k := fun e => hne e.symm
  simp [putRow, mapBlock, Sort.ahead, Array.getElem?_modify, this]

theorem prim140 (K : CallF) : CallOk Tryz.prog 140 (sortIP K) := by
  intro args s v s' h C ρ xs w hargs hok
  refine .inr ⟨call140 xs w, ?_⟩
  unfold sortIP at h
  split at h
  rotate_left
  · cases h
  rename_i x
  obtain ⟨u, e1, r1⟩ := hargs.one
  have e2 : xs = #[u] := Array.ext' e1
  subst e2
  split at h
  · rename_i hl
    cases h
    obtain ⟨ad, c, rfl⟩ := lenSl_ok hl r1
    refine (AnyM.slices_Sort_int_none sortInt ad c w).mono ?_
    rintro e w' ⟨rfl, rfl⟩
    exact ⟨_, ρ, rfl, Ext.refl _ _, VR.undef ρ, hok⟩
  · rename_i n hl
    split at h
    rotate_left
    · cases h
    rename_i hn5
    have hn5 := Nat.le_of_ble_eq_true hn5
    split at h
    rotate_left
    · cases h
    rename_i p hp
    split at h
    rotate_left
    · cases h
    rename_i q hq
    split at h
    rotate_left
    · cases h
    rename_i r hr
    split at h
    rotate_left
    · cases h
    rename_i ns hns
    split at h
    rotate_left
    · cases h
    rename_i r2 hr2
    obtain ⟨hput, rfl⟩ := skip1_inv h
    -- where it lies
    have hlen : p.2.2.2.1 = n + 1 := by
      unfold lenSl at hl
      rw [hp] at hl
      simpa using hl
    obtain ⟨pb, c, hpb, rfl⟩ : ∃ pb c, ρ p.2.1 = some pb ∧ u = .slice (some ⟨pb.blk, pb.off + p.2.2.1, none⟩) (n + 1) c := by
      rcases asSl_iff.1 hp with ⟨_, rfl⟩ | ⟨_, rfl⟩
      · obtain ⟨pb, h1, h2⟩ := VR.sl_iff.1 r1
        exact ⟨pb, _, h1, by rw [h2, hlen]⟩
      · obtain ⟨pb, ad, c, h1, h2, h3⟩ := VR.sx_iff.1 r1
        rcases h3 with ⟨rfl, _⟩ | ⟨h3, _⟩
        · exact ⟨pb, c, h1, by rw [h2, hlen]⟩
        · omega
    obtain ⟨t, cs⟩ := q
    obtain ⟨a, ha, g1, g2, g3, g4, g5⟩ := hok.cellsT hpb hq
    dsimp only at ha g1 g2 g3 g4 g5
    have hco : s.cellsOf p.2.1 = some cs := asCells_iff.2 ⟨t, asCellsT_iff.1 hq⟩
    obtain ⟨us, m1, m2, m3, _⟩ := hok.range hpb (readOf_cells hco) hr
    have hus := intsL_ok hns m3
    have hnl : ns.length = n + 1 := by rw [hus] at m1; simpa using m1
    obtain ⟨hle, hre⟩ := putFrom_eq _ _ _ _ hr2
    have hml : (mkInts (isort ns)).length = n + 1 := by rw [← lenV_eq, (mkInts_ok ρ _).2, (isort_perm ns).length_eq, hnl]
    have hil : (isort ns).length = n + 1 := by rw [(isort_perm ns).length_eq, hnl]
    rw [hml] at hle hre
    dsimp only at hle hre
    have hj : p.2.1 < 32768 := Nat.lt_of_lt_of_le (hok.dom _ pb hpb) hok.bound
    have hext := Ext.put hok hput hj
    obtain ⟨rfl, _⟩ := put_ok hput
    have hH : Holds (Value.int .i64) w pb.blk (pb.off + p.2.2.1) ns.toArray := by
      intro i hi
      have hi' : i < ns.length := by simpa using hi
      refine ⟨?_, by simp [World.frozen?, ha]⟩
      refine m2 i _ ?_
      rw [hus]
      simp [hi']
    have hblk : pb.blk < w.heap.size := (Array.getElem?_eq_some_iff.1 ha).1
    have hc := AnyM.slices_Sort_int sortInt pb.blk (pb.off + p.2.2.1) c ns w hH hblk (by omega)
    rw [hnl] at hc
    refine hc.mono ?_
    rintro e w' ⟨rfl, k, os, rfl⟩
    rw [isort_merge]
    refine ⟨_, ρ, rfl, hext, VR.undef ρ, ?_⟩
    have hsz : (putCells encZ (pb.off + p.2.2.1) (isort ns).toArray a).size = a.size := by simp [putCells]
    have hrl : r2.length = cs.length := by
      rw [hre]
      simp [hml]
      omega
    have hget : ∀ i, i < cs.length → (putCells encZ (pb.off + p.2.2.1) (isort ns).toArray a).toList[pb.off + i]? = if p.2.2.1 ≤ i ∧ i < p.2.2.1 + (n + 1) then ((isort ns).map encZ)[i - p.2.2.1]? else a.toList[pb.off + i]? := by
      intro i hi
      have hia : pb.off + i < a.size := by omega
      simp only [putCells, Array.getElem?_toList]
      rw [Array.getElem?_mapIdx, Array.getElem?_eq_getElem hia]
      simp only [Option.map_some, List.size_toArray, hil]
      by_cases hc : p.2.2.1 ≤ i ∧ i < p.2.2.1 + (n + 1)
      · rw [if_pos hc, if_pos (by omega)]
        have : pb.off + i - (pb.off + p.2.2.1) = i - p.2.2.1 := by omega
        rw [this]
        have hlt : i - p.2.2.1 < (isort ns).length := by omega
        simp [hlt]
      · rw [if_neg hc, if_neg (by omega)]
    have hmk := (mkInts_ok ρ (isort ns)).1
    have hvr : VRL ρ r2 (((putCells encZ (pb.off + p.2.2.1) (isort ns).toArray a).toList.drop pb.off).take r2.length) := by
      refine .of_get (by simp [hsz]; omega) fun i x v hx hv => ?_
      have hi : i < cs.length := by
        rw [← hrl]
        exact (List.getElem?_eq_some_iff.1 hx).1
      rw [List.getElem?_take, if_pos (by omega), List.getElem?_drop, hget i hi] at hv
      rw [hre] at hx
      by_cases hc : p.2.2.1 ≤ i ∧ i < p.2.2.1 + (n + 1)
      · rw [if_pos hc] at hv
        rw [List.append_assoc, List.getElem?_append_right (by simp; omega), List.getElem?_append_left (by simp; omega)] at hx
        have hmin : min p.2.2.1 cs.length = p.2.2.1 := by omega
        rw [List.length_take, hmin] at hx
        obtain ⟨v2, hv2, rv⟩ := hmk.get _ _ hx
        have hv2 : ((isort ns).map encZ)[i - p.2.2.1]? = some v2 := hv2
        rw [hv2] at hv
        cases hv
        exact rv
      · rw [if_neg hc] at hv
        have hx2 : cs[i]? = some x := by
          by_cases h1 : i < p.2.2.1
          · rw [List.append_assoc, List.getElem?_append_left (by simp; omega), List.getElem?_take, if_pos h1] at hx
            exact hx
          · have hmin : min p.2.2.1 cs.length = p.2.2.1 := by omega
            rw [List.append_assoc, List.getElem?_append_right (by simp; omega), List.getElem?_append_right (by simp; omega), List.getElem?_drop, List.length_take, hmin, hml] at hx
            have : p.2.2.1 + (n + 1) + (i - p.2.2.1 - (n + 1)) = i := by omega
            rw [this] at hx
            exact hx
        obtain ⟨v2, hv2, rv⟩ := g3.get i x hx2
        rw [List.getElem?_take, if_pos hi, List.getElem?_drop] at hv2
        rw [hv2] at hv
        cases hv
        exact rv
    have hone : ∀ y ∈ ((putCells encZ (pb.off + p.2.2.1) (isort ns).toArray a).toList.drop pb.off).take r2.length, y.oneCell' = true := by
      intro y hy
      obtain ⟨i, hi⟩ := List.mem_iff_getElem?.1 hy
      rw [List.getElem?_take] at hi
      split at hi
      · rename_i hir
        rw [List.getElem?_drop, hget i (by omega)] at hi
        split at hi
        · obtain ⟨z, _, rfl⟩ := List.mem_map.1 (List.mem_of_getElem? hi)
          rfl
        · refine g4 y (List.mem_of_getElem? (i := i) ?_)
          rw [List.getElem?_take, if_pos (by omega), List.getElem?_drop]
          exact hi
      · cases hi
    have hw := hok.write hpb (live_cells hq) (x := .cells t r2) (o := .cells (putCells encZ (pb.off + p.2.2.1) (isort ns).toArray a) (t / 2) (0, 0))
      ⟨_, rfl, by rw [hsz]; exact g1, by rw [hrl]; exact g2, hvr, hone, fun ht => by obtain ⟨z1, z2⟩ := g5 ht; exact ⟨z1, by rw [hrl, hsz]; exact z2⟩⟩ rfl
    refine hw.below ⟨rfl, rfl, rfl, ?_, fun i hi => ?_⟩
    · simp
    · have hi : i < w.heap.size := by simpa using hi
      show (grow (putRow encZ (Sort.ahead w k) pb.blk (pb.off + p.2.2.1) (isort ns).toArray) os).heap[i]? = (w.heap.setIfInBounds pb.blk _)[i]?
      by_cases hib : i = pb.blk
      · subst hib
        rw [heap_sorted_at _ ha]
        simp [hblk]
      · rw [heap_other_at _ hi hib, Array.getElem?_setIfInBounds_ne (Ne.symm hib)]
  · cases h

end Go.Exe
