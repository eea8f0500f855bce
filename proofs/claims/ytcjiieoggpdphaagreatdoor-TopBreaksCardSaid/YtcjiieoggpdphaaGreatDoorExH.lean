/- Functions that are taken as they are: sorting by a function. No condition. -/
import Derived.Test.YtcjiieoggpdphaaGreatDoorExG
import Derived.Shelf.SlLaysF
import Derived.Shelf.SlLaysF0
import Derived.Shelf.SlSortCmp.Whole1
import Derived.Shelf.SlSortCmp.NoneTotal
import Derived.Shelf.SlSortCmp.WholeK
import Derived.Laws.Cover1
namespace Go.Exe
open Go Go.Proofs
set_option maxRecDepth 100000
def collectJ_ren : Shelf.Ren := ⟨fun x => match x with | 8 => 69 | 11 => 131 | x => x, fun x => match x with | 24 => 56 | 26 => 2 | 28 => 101 | 33 => 173 | x => x, fun x => x⟩
theorem collectJ : SlLaysZI.n8 Tryz.prog collectJ_ren where
  mixed := follows_mixed
  f8 := ⟨Tryz.f69.name, by kernel_rfl, by kernel_rfl⟩
  f11 := ⟨Tryz.f131.name, by kernel_rfl, by kernel_rfl⟩
  t0 := by kernel_rfl
  a0 := fun w => by kernel_rfl
  z0 := fun w => by kernel_rfl
  v0 := fun w => by kernel_rfl
  t24 := by kernel_rfl
  a24 := fun w => by kernel_rfl
  z24 := fun w => by kernel_rfl
  v24 := fun w => by kernel_rfl
  t26 := by kernel_rfl
  a26 := fun w => by kernel_rfl
  z26 := fun w => by kernel_rfl
  v26 := fun w => by kernel_rfl
  t28 := by kernel_rfl
  a28 := fun w => by kernel_rfl
  z28 := fun w => by kernel_rfl
  v28 := fun w => by kernel_rfl
  i26 := by kernel_rfl
def keysJ_ren : Shelf.Ren := ⟨fun x => match x with | 10 => 71 | x => x, fun x => match x with | 3 => 88 | 23 => 76 | 26 => 2 | 33 => 173 | x => x, fun x => x⟩
theorem keysJ : SlLaysZI.n10 Tryz.prog keysJ_ren where
  mixed := follows_mixed
  f10 := ⟨Tryz.f71.name, by kernel_rfl, by kernel_rfl⟩
  t0 := by kernel_rfl
  a0 := fun w => by kernel_rfl
  z0 := fun w => by kernel_rfl
  v0 := fun w => by kernel_rfl
  t4 := by kernel_rfl
  a4 := fun w => by kernel_rfl
  z4 := fun w => by kernel_rfl
  v4 := fun w => by kernel_rfl
  t23 := by kernel_rfl
  a23 := fun w => by kernel_rfl
  z23 := fun w => by kernel_rfl
  v23 := fun w => by kernel_rfl
  t26 := by kernel_rfl
  a26 := fun w => by kernel_rfl
  z26 := fun w => by kernel_rfl
  v26 := fun w => by kernel_rfl
  t33 := by kernel_rfl
  a33 := fun w => by kernel_rfl
  z33 := fun w => by kernel_rfl
  v33 := fun w => by kernel_rfl
def sortFJ_ren : Shelf.Ren := ⟨fun x => match x with | 6 => 70 | 14 => 132 | 15 => 133 | 20 => 195 | 21 => 196 | 22 => 197 | 23 => 198 | 24 => 199 | 25 => 200 | 26 => 201 | 27 => 202 | 28 => 203 | 29 => 204 | 46 => 294 | 47 => 295 | 48 => 296 | 49 => 297 | 50 => 298 | 57 => 392 | x => x, fun x => match x with | 0 => 0 | 3 => 3 | 4 => 4 | 5 => 5 | 9 => 9 | 22 => 56 | 24 => 2 | 25 => 103 | 39 => 70 | 45 => 376 | 46 => 377 | 50 => 188 | 53 => 175 | 55 => 30 | 66 => 485 | 70 => 489 | 76 => 571 | 77 => 572 | x => x, fun x => match x with | 1 => 1 | x => x⟩
theorem sortFJ : SlLaysF.n6 Tryz.prog sortFJ_ren where
  mixed := follows_mixed
  f6 := ⟨Tryz.f70.name, by kernel_rfl, by kernel_rfl⟩
  f14 := ⟨Tryz.f132.name, by kernel_rfl, by kernel_rfl⟩
  f15 := by kernel_rfl
  f20 := ⟨Tryz.f195.name, by kernel_rfl, by kernel_rfl⟩
  f21 := ⟨Tryz.f196.name, by kernel_rfl, by kernel_rfl⟩
  f22 := ⟨Tryz.f197.name, by kernel_rfl, by kernel_rfl⟩
  f23 := ⟨Tryz.f198.name, by kernel_rfl, by kernel_rfl⟩
  f24 := ⟨Tryz.f199.name, by kernel_rfl, by kernel_rfl⟩
  f25 := ⟨Tryz.f200.name, by kernel_rfl, by kernel_rfl⟩
  f26 := ⟨Tryz.f201.name, by kernel_rfl, by kernel_rfl⟩
  f27 := ⟨Tryz.f202.name, by kernel_rfl, by kernel_rfl⟩
  f28 := by kernel_rfl
  f29 := by kernel_rfl
  f46 := ⟨Tryz.f294.name, by kernel_rfl, by kernel_rfl⟩
  f47 := by kernel_rfl
  f48 := by kernel_rfl
  f49 := ⟨Tryz.f297.name, by kernel_rfl, by kernel_rfl⟩
  f50 := ⟨Tryz.f298.name, by kernel_rfl, by kernel_rfl⟩
  f57 := ⟨Tryz.f392.name, by kernel_rfl, by kernel_rfl⟩
  t0 := by kernel_rfl
  a0 := fun w => by kernel_rfl
  z0 := fun w => by kernel_rfl
  v0 := fun w => by kernel_rfl
  t3 := by kernel_rfl
  a3 := fun w => by kernel_rfl
  z3 := fun w => by kernel_rfl
  v3 := fun w => by kernel_rfl
  t4 := by kernel_rfl
  a4 := fun w => by kernel_rfl
  z4 := fun w => by kernel_rfl
  v4 := fun w => by kernel_rfl
  t5 := by kernel_rfl
  a5 := fun w => by kernel_rfl
  z5 := fun w => by kernel_rfl
  v5 := fun w => by kernel_rfl
  t9 := by kernel_rfl
  a9 := fun w => by kernel_rfl
  z9 := fun w => by kernel_rfl
  v9 := fun w => by kernel_rfl
  t22 := by kernel_rfl
  a22 := fun w => by kernel_rfl
  z22 := fun w => by kernel_rfl
  v22 := fun w => by kernel_rfl
  a24 := fun w => by kernel_rfl
  z24 := fun w => by kernel_rfl
  t25 := by kernel_rfl
  a25 := fun w => by kernel_rfl
  z25 := fun w => by kernel_rfl
  v25 := fun w => by kernel_rfl
  t39 := by kernel_rfl
  a39 := fun w => by kernel_rfl
  z39 := fun w => by kernel_rfl
  v39 := fun w => by kernel_rfl
  t45 := by kernel_rfl
  a45 := fun w => by kernel_rfl
  z45 := fun w => by kernel_rfl
  v45 := fun w => by kernel_rfl
  t46 := by kernel_rfl
  a46 := fun w => by kernel_rfl
  z46 := fun w => by kernel_rfl
  v46 := fun w => by kernel_rfl
  t50 := by kernel_rfl
  a50 := fun w => by kernel_rfl
  z50 := fun w => by kernel_rfl
  v50 := fun w => by kernel_rfl
  t53 := by kernel_rfl
  a53 := fun w => by kernel_rfl
  z53 := fun w => by kernel_rfl
  v53 := fun w => by kernel_rfl
  t55 := by kernel_rfl
  a55 := fun w => by kernel_rfl
  z55 := fun w => by kernel_rfl
  v55 := fun w => by kernel_rfl
  t66 := by kernel_rfl
  a66 := fun w => by kernel_rfl
  z66 := fun w => by kernel_rfl
  v66 := fun w => by kernel_rfl
  t70 := by kernel_rfl
  a70 := fun w => by kernel_rfl
  z70 := fun w => by kernel_rfl
  v70 := fun w => by kernel_rfl
  t76 := by kernel_rfl
  a76 := fun w => by kernel_rfl
  z76 := fun w => by kernel_rfl
  v76 := fun w => by kernel_rfl
  t77 := by kernel_rfl
  a77 := fun w => by kernel_rfl
  z77 := fun w => by kernel_rfl
  v77 := fun w => by kernel_rfl
def sortFH_ren : Shelf.Ren := ⟨fun x => match x with | 6 => 186 | 14 => 279 | 15 => 133 | 20 => 379 | 21 => 380 | 22 => 381 | 23 => 382 | 24 => 383 | 25 => 384 | 26 => 385 | 27 => 386 | 28 => 203 | 29 => 204 | 46 => 438 | 47 => 295 | 48 => 296 | 49 => 439 | 50 => 440 | 57 => 496 | x => x, fun x => match x with | 0 => 0 | 3 => 3 | 4 => 4 | 5 => 5 | 9 => 9 | 22 => 26 | 24 => 69 | 25 => 258 | 39 => 70 | 45 => 376 | 46 => 377 | 50 => 188 | 53 => 175 | 55 => 30 | 66 => 485 | 70 => 489 | 76 => 571 | 77 => 572 | x => x, fun x => match x with | 1 => 1 | x => x⟩
theorem sortFH : SlLaysF0.n6 Tryz.prog sortFH_ren where
  mixed := follows_mixed
  f6 := ⟨Tryz.f186.name, by kernel_rfl, by kernel_rfl⟩
  f14 := ⟨Tryz.f279.name, by kernel_rfl, by kernel_rfl⟩
  f15 := by kernel_rfl
  f20 := ⟨Tryz.f379.name, by kernel_rfl, by kernel_rfl⟩
  f21 := ⟨Tryz.f380.name, by kernel_rfl, by kernel_rfl⟩
  f22 := ⟨Tryz.f381.name, by kernel_rfl, by kernel_rfl⟩
  f23 := ⟨Tryz.f382.name, by kernel_rfl, by kernel_rfl⟩
  f24 := ⟨Tryz.f383.name, by kernel_rfl, by kernel_rfl⟩
  f25 := ⟨Tryz.f384.name, by kernel_rfl, by kernel_rfl⟩
  f26 := ⟨Tryz.f385.name, by kernel_rfl, by kernel_rfl⟩
  f27 := ⟨Tryz.f386.name, by kernel_rfl, by kernel_rfl⟩
  f28 := by kernel_rfl
  f29 := by kernel_rfl
  f46 := ⟨Tryz.f438.name, by kernel_rfl, by kernel_rfl⟩
  f47 := by kernel_rfl
  f48 := by kernel_rfl
  f49 := ⟨Tryz.f439.name, by kernel_rfl, by kernel_rfl⟩
  f50 := ⟨Tryz.f440.name, by kernel_rfl, by kernel_rfl⟩
  f57 := ⟨Tryz.f496.name, by kernel_rfl, by kernel_rfl⟩
  t0 := by kernel_rfl
  a0 := fun w => by kernel_rfl
  z0 := fun w => by kernel_rfl
  v0 := fun w => by kernel_rfl
  t3 := by kernel_rfl
  a3 := fun w => by kernel_rfl
  z3 := fun w => by kernel_rfl
  v3 := fun w => by kernel_rfl
  t4 := by kernel_rfl
  a4 := fun w => by kernel_rfl
  z4 := fun w => by kernel_rfl
  v4 := fun w => by kernel_rfl
  t5 := by kernel_rfl
  a5 := fun w => by kernel_rfl
  z5 := fun w => by kernel_rfl
  v5 := fun w => by kernel_rfl
  t9 := by kernel_rfl
  a9 := fun w => by kernel_rfl
  z9 := fun w => by kernel_rfl
  v9 := fun w => by kernel_rfl
  t22 := by kernel_rfl
  a22 := fun w => by kernel_rfl
  z22 := fun w => by kernel_rfl
  v22 := fun w => by kernel_rfl
  t25 := by kernel_rfl
  a25 := fun w => by kernel_rfl
  z25 := fun w => by kernel_rfl
  v25 := fun w => by kernel_rfl
  t39 := by kernel_rfl
  a39 := fun w => by kernel_rfl
  z39 := fun w => by kernel_rfl
  v39 := fun w => by kernel_rfl
  t45 := by kernel_rfl
  a45 := fun w => by kernel_rfl
  z45 := fun w => by kernel_rfl
  v45 := fun w => by kernel_rfl
  t46 := by kernel_rfl
  a46 := fun w => by kernel_rfl
  z46 := fun w => by kernel_rfl
  v46 := fun w => by kernel_rfl
  t50 := by kernel_rfl
  a50 := fun w => by kernel_rfl
  z50 := fun w => by kernel_rfl
  v50 := fun w => by kernel_rfl
  t53 := by kernel_rfl
  a53 := fun w => by kernel_rfl
  z53 := fun w => by kernel_rfl
  v53 := fun w => by kernel_rfl
  t55 := by kernel_rfl
  a55 := fun w => by kernel_rfl
  z55 := fun w => by kernel_rfl
  v55 := fun w => by kernel_rfl
  t66 := by kernel_rfl
  a66 := fun w => by kernel_rfl
  z66 := fun w => by kernel_rfl
  v66 := fun w => by kernel_rfl
  t70 := by kernel_rfl
  a70 := fun w => by kernel_rfl
  z70 := fun w => by kernel_rfl
  v70 := fun w => by kernel_rfl
  t76 := by kernel_rfl
  a76 := fun w => by kernel_rfl
  z76 := fun w => by kernel_rfl
  v76 := fun w => by kernel_rfl
  t77 := by kernel_rfl
  a77 := fun w => by kernel_rfl
  z77 := fun w => by kernel_rfl
  v77 := fun w => by kernel_rfl
def sortF0J_ren : Shelf.Ren := ⟨fun x => match x with | 6 => 70 | 14 => 132 | 15 => 133 | 20 => 195 | 21 => 196 | 22 => 197 | 23 => 198 | 24 => 199 | 25 => 200 | 26 => 201 | 27 => 202 | 28 => 203 | 29 => 204 | 46 => 294 | 47 => 295 | 48 => 296 | 49 => 297 | 50 => 298 | 57 => 392 | x => x, fun x => match x with | 0 => 0 | 3 => 3 | 4 => 4 | 5 => 5 | 9 => 9 | 22 => 56 | 24 => 2 | 25 => 103 | 39 => 70 | 45 => 376 | 46 => 377 | 50 => 188 | 53 => 175 | 55 => 30 | 66 => 485 | 70 => 489 | 76 => 571 | 77 => 572 | x => x, fun x => match x with | 1 => 1 | x => x⟩
theorem sortF0J : SlLaysF0.n6 Tryz.prog sortF0J_ren where
  mixed := follows_mixed
  f6 := ⟨Tryz.f70.name, by kernel_rfl, by kernel_rfl⟩
  f14 := ⟨Tryz.f132.name, by kernel_rfl, by kernel_rfl⟩
  f15 := by kernel_rfl
  f20 := ⟨Tryz.f195.name, by kernel_rfl, by kernel_rfl⟩
  f21 := ⟨Tryz.f196.name, by kernel_rfl, by kernel_rfl⟩
  f22 := ⟨Tryz.f197.name, by kernel_rfl, by kernel_rfl⟩
  f23 := ⟨Tryz.f198.name, by kernel_rfl, by kernel_rfl⟩
  f24 := ⟨Tryz.f199.name, by kernel_rfl, by kernel_rfl⟩
  f25 := ⟨Tryz.f200.name, by kernel_rfl, by kernel_rfl⟩
  f26 := ⟨Tryz.f201.name, by kernel_rfl, by kernel_rfl⟩
  f27 := ⟨Tryz.f202.name, by kernel_rfl, by kernel_rfl⟩
  f28 := by kernel_rfl
  f29 := by kernel_rfl
  f46 := ⟨Tryz.f294.name, by kernel_rfl, by kernel_rfl⟩
  f47 := by kernel_rfl
  f48 := by kernel_rfl
  f49 := ⟨Tryz.f297.name, by kernel_rfl, by kernel_rfl⟩
  f50 := ⟨Tryz.f298.name, by kernel_rfl, by kernel_rfl⟩
  f57 := ⟨Tryz.f392.name, by kernel_rfl, by kernel_rfl⟩
  t0 := by kernel_rfl
  a0 := fun w => by kernel_rfl
  z0 := fun w => by kernel_rfl
  v0 := fun w => by kernel_rfl
  t3 := by kernel_rfl
  a3 := fun w => by kernel_rfl
  z3 := fun w => by kernel_rfl
  v3 := fun w => by kernel_rfl
  t4 := by kernel_rfl
  a4 := fun w => by kernel_rfl
  z4 := fun w => by kernel_rfl
  v4 := fun w => by kernel_rfl
  t5 := by kernel_rfl
  a5 := fun w => by kernel_rfl
  z5 := fun w => by kernel_rfl
  v5 := fun w => by kernel_rfl
  t9 := by kernel_rfl
  a9 := fun w => by kernel_rfl
  z9 := fun w => by kernel_rfl
  v9 := fun w => by kernel_rfl
  t22 := by kernel_rfl
  a22 := fun w => by kernel_rfl
  z22 := fun w => by kernel_rfl
  v22 := fun w => by kernel_rfl
  t25 := by kernel_rfl
  a25 := fun w => by kernel_rfl
  z25 := fun w => by kernel_rfl
  v25 := fun w => by kernel_rfl
  t39 := by kernel_rfl
  a39 := fun w => by kernel_rfl
  z39 := fun w => by kernel_rfl
  v39 := fun w => by kernel_rfl
  t45 := by kernel_rfl
  a45 := fun w => by kernel_rfl
  z45 := fun w => by kernel_rfl
  v45 := fun w => by kernel_rfl
  t46 := by kernel_rfl
  a46 := fun w => by kernel_rfl
  z46 := fun w => by kernel_rfl
  v46 := fun w => by kernel_rfl
  t50 := by kernel_rfl
  a50 := fun w => by kernel_rfl
  z50 := fun w => by kernel_rfl
  v50 := fun w => by kernel_rfl
  t53 := by kernel_rfl
  a53 := fun w => by kernel_rfl
  z53 := fun w => by kernel_rfl
  v53 := fun w => by kernel_rfl
  t55 := by kernel_rfl
  a55 := fun w => by kernel_rfl
  z55 := fun w => by kernel_rfl
  v55 := fun w => by kernel_rfl
  t66 := by kernel_rfl
  a66 := fun w => by kernel_rfl
  z66 := fun w => by kernel_rfl
  v66 := fun w => by kernel_rfl
  t70 := by kernel_rfl
  a70 := fun w => by kernel_rfl
  z70 := fun w => by kernel_rfl
  v70 := fun w => by kernel_rfl
  t76 := by kernel_rfl
  a76 := fun w => by kernel_rfl
  z76 := fun w => by kernel_rfl
  v76 := fun w => by kernel_rfl
  t77 := by kernel_rfl
  a77 := fun w => by kernel_rfl
  z77 := fun w => by kernel_rfl
  v77 := fun w => by kernel_rfl
end Go.Exe
namespace Go.Exe
open Go Go.Proofs Go.Maps Go.MapKept Go.RowKit Go.Sort

/-- cmp.Compare -/
def cmpZ (x y : Int) : Int := if x < y then -1 else if y < x then 1 else 0
theorem ltOf_cmpZ (x y : Int) : ltOf cmpZ x y = decide (x < y) := by
  unfold ltOf cmpZ
  by_cases h : x < y
  · simp [h]
  · by_cases h2 : y < x <;> simp [h, h2]
theorem swo_cmpZ : SWO (ltOf cmpZ) := by
  refine ⟨fun x => ?_, fun x y z h1 h2 => ?_, fun x y z h1 h2 => ?_⟩ <;> simp only [ltOf_cmpZ, decide_eq_true_eq, decide_eq_false_iff_not] at * <;> omega

set_option maxHeartbeats 1000000 in
set_option maxRecDepth 100000 in
theorem nan72 (x : Int) (w : World) : Calls Tryz.prog 72 #[.int .i64 x] w fun e w' => e = .returned (.bool false) ∧ w' = w := by
  go_enter Tryz.func72, Tryz.ntmps72
  go_wp2
  go_ret
  exact ⟨by simp, rfl⟩

theorem fs72 : fsF 72 = some Tryz.f72 := by kernel_rfl
theorem fs28 : fsF 28 = some Tryz.f28 := by kernel_rfl
theorem fs26 : fsF 26 = some Tryz.f26 := by kernel_rfl
theorem fs69 : fsF 69 = some Tryz.f69 := by kernel_rfl
theorem fs70 : fsF 70 = some Tryz.f70 := by kernel_rfl
theorem fs71 : fsF 71 = some Tryz.f71 := by kernel_rfl
theorem call72 (xs : Array Value) (w : World) : (callFunc 72 xs).run Tryz.prog w = .ok (.enter 72 xs) w := by
  have hb : ∃ c, Tryz.f72.body = some c := ⟨_, rfl⟩
  obtain ⟨c, hb⟩ := hb
  exact callFunc_body fs72 hb xs w
theorem call28 (xs : Array Value) (w : World) : (callFunc 28 xs).run Tryz.prog w = .ok (.enter 28 xs) w := by
  have hb : ∃ c, Tryz.f28.body = some c := ⟨_, rfl⟩
  obtain ⟨c, hb⟩ := hb
  exact callFunc_body fs28 hb xs w
theorem call26 (xs : Array Value) (w : World) : (callFunc 26 xs).run Tryz.prog w = .ok (.enter 26 xs) w := by
  have hb : ∃ c, Tryz.f26.body = some c := ⟨_, rfl⟩
  obtain ⟨c, hb⟩ := hb
  exact callFunc_body fs26 hb xs w
theorem call69 (xs : Array Value) (w : World) : (callFunc 69 xs).run Tryz.prog w = .ok (.enter 69 xs) w := by
  have hb : ∃ c, Tryz.f69.body = some c := ⟨_, rfl⟩
  obtain ⟨c, hb⟩ := hb
  exact callFunc_body fs69 hb xs w
theorem call70 (xs : Array Value) (w : World) : (callFunc 70 xs).run Tryz.prog w = .ok (.enter 70 xs) w := by
  have hb : ∃ c, Tryz.f70.body = some c := ⟨_, rfl⟩
  obtain ⟨c, hb⟩ := hb
  exact callFunc_body fs70 hb xs w
theorem call71 (xs : Array Value) (w : World) : (callFunc 71 xs).run Tryz.prog w = .ok (.enter 71 xs) w := by
  have hb : ∃ c, Tryz.f71.body = some c := ⟨_, rfl⟩
  obtain ⟨c, hb⟩ := hb
  exact callFunc_body fs71 hb xs w

set_option maxHeartbeats 1000000 in
set_option maxRecDepth 100000 in
theorem compare28 (x y : Int) (w : World) : Calls Tryz.prog 28 #[.int .i64 x, .int .i64 y] w fun e w' => e = .returned (.int .i64 (cmpZ x y)) ∧ w' = w := by
  have e72 := call72
  unfold cmpZ
  by_cases h1 : x < y
  · rw [if_pos h1]
    go_enter Tryz.func28, Tryz.ntmps28
    go_wp2_with (go_at_fn 72; refine (nan72 _ _).mono ?_; rintro e w' ⟨rfl, rfl⟩)
    go_ret
    exact ⟨rfl, rfl⟩
  · rw [if_neg h1]
    by_cases h2 : y < x
    · rw [if_pos h2]
      go_enter Tryz.func28, Tryz.ntmps28
      go_wp2_with (go_at_fn 72; refine (nan72 _ _).mono ?_; rintro e w' ⟨rfl, rfl⟩)
      go_ret
      exact ⟨rfl, rfl⟩
    · rw [if_neg h2]
      go_enter Tryz.func28, Tryz.ntmps28
      go_wp2_with (go_at_fn 72; refine (nan72 _ _).mono ?_; rintro e w' ⟨rfl, rfl⟩)
      go_ret
      exact ⟨rfl, rfl⟩

theorem cmpLays28 (blk off size : Nat) (w : World) : CmpLays1 Tryz.prog 28 #[] encZ cmpZ blk off size w := fun m os dk hs x y =>
  (compare28 x y _).mono fun e w' ⟨he, hw⟩ => ⟨he, 0, #[], by rw [hw]; simp [grow]; rfl⟩

theorem sortedIn_isort {ns : List Int} {d' : Array Int} (hp : d'.toList.Perm ns) (hs : SortedIn (ltOf cmpZ) 0 d'.size d') : d'.toList = isort ns := by
  refine List.Perm.eq_of_pairwise (le := fun a b => a ≤ b) (fun a b _ _ h1 h2 => Int.le_antisymm h1 h2) ?_ (isort_sorted ns) (hp.trans (isort_perm ns).symm)
  rw [List.pairwise_iff_getElem]
  intro i j hi hj hij
  have hi' : i < d'.size := by simpa using hi
  have hj' : j < d'.size := by simpa using hj
  have h := hs i j (Nat.zero_le _) hij hj'
  rw [ltOf_cmpZ, getElem!_pos d' i hi', getElem!_pos d' j hj'] at h
  simp at h
  simpa using h

theorem perm_whole {α : Type} [Inhabited α] {d d' : Array α} (h : PermIn 0 d.size d d') : d'.size = d.size ∧ d'.toList.Perm d.toList := by
  obtain ⟨h1, _, h3⟩ := h
  refine ⟨h1, ?_⟩
  rw [Array.extract_size, show d.size = d'.size from h1.symm, Array.extract_size] at h3
  exact h3

set_option maxHeartbeats 2000000 in
set_option maxRecDepth 100000 in
theorem sorted26 {Bm b c : Nat} {arr : Array MapEntry} {w : World} {ns : List Int} (hBm : Bm < w.heap.size) (hm : w.cell? ⟨Bm, 0, none⟩ = some (.map (some b))) (hb : w.heap[b]? = some (.map arr c)) (hst : Stamped arr c) (hsz : arr.size ≤ 65536)
    (hkeys : arr.toList.map (·.key) = ns.map fun n => Value.int .i64 n) (hwf : ∀ n ∈ ns, (Lit.int .i64 n).wf = true) :
    Calls Tryz.prog 26 #[.func (.func 71) #[] #[.pointer (some ⟨Bm, 0, none⟩)], .func (.func 28) #[] #[]] w fun e w' => ∃ (v : Value), e = .returned v ∧
      w'.ownsRow w.heap.size 2 1 v ns.length ((isort ns).map encZ) ∧ (v = .slice none 0 0 ↔ ns = []) ∧ Below w.heap.size w w' := by
  have hk2 : Tryz.prog.underlying 2 = some (.int .i64) := Tryz.underlying2
  have hmax : (65536 : Nat) ≤ maxLen := by unfold maxLen; decide
  obtain ⟨D0, hown, hperm, hsize⟩ := own_int hk2 hb hst (Nat.le_trans hsz hmax) hkeys hwf
  have hseq := AnyZI.keys_gives keysJ Fence.wide 2 trivial rfl (by omega) Bm b arr.size D0 w hBm hm hown
  have hcol := callsIn_wide.1 (AnyZI.collect_in collectJ Fence.wide 4 trivial trivial rfl (by omega) 71 #[.pointer (some ⟨Bm, 0, none⟩)] trivial call71 _ _ (by rw [hsize]; exact Nat.le_trans hsz hmax) (by rw [hsize]; omega) w hseq)
  have e69 := call69
  have e70 := call70
  go_enter Tryz.func26, Tryz.ntmps26
  go_wp2_with (go_at_fn 69; refine hcol.mono ?_; rintro e W ⟨v, ss, rfl, hS, hrow, hnil, hbl⟩)
  have hSn : ss.Perm ns := hS.trans hperm
  rcases hrow.2 with ⟨rfl, hz⟩ | ⟨gb, cap, cur, rfl, hbase, hgb, r1, r2, r3, r4⟩
  · have hss : ss = [] := List.eq_nil_of_length_eq_zero hz
    rw [hss] at hSn
    have hns : ns = [] := (List.Perm.nil_eq hSn).symm
    subst hns
    have cN := AnyF.slices_SortFunc_none sortF0J none 0 (.func (.func 28) #[] #[]) W
    go_wp2_with (go_at_fn 70; refine cN.mono ?_; rintro e w' ⟨rfl, rfl⟩)
    go_ret
    exact ⟨_, rfl, ⟨rfl, .inl ⟨rfl, rfl⟩⟩, by simp, hbl⟩
  · have hH : Holds encZ W gb 0 ss.toArray := holds_of_block_i hgb (by simpa using r4)
    have hgl : gb < W.heap.size := (Array.getElem?_eq_some_iff.1 hgb).1
    have hlen : ss.length = ns.length := hSn.length_eq
    have hal : arr.size = ns.length := by
      have := congrArg List.length hkeys
      simpa using this
    have cS := Any.slices_SortFunc sortFJ encZ (fun x => rfl) cmpZ swo_cmpZ 28 #[] gb 0 cap ss.toArray W call28 (cmpLays28 _ _ _ _) hH hgl (by simp; omega)
    rw [List.size_toArray] at cS
    go_wp2_with (go_at_fn 70; refine cS.mono ?_; rintro e w' ⟨rfl, d', nn, os, hP, hSo, rfl⟩)
    go_ret
    have hP' : PermIn 0 ss.toArray.size ss.toArray d' := by rw [List.size_toArray]; exact hP
    obtain ⟨hs1, hs2⟩ := perm_whole hP'
    have hs1 : d'.size = ss.length := by simpa using hs1
    have hd : d'.toList = isort ns := sortedIn_isort (hs2.trans hSn) (by rw [hs1]; exact hSo)
    have hd' : d' = (isort ns).toArray := Array.ext' (by simpa using hd)
    subst hd'
    refine ⟨_, rfl, ?_, ?_, ?_⟩
    · rw [← hlen]
      exact ownsRow_sorted_i (by rw [(isort_perm ns).length_eq, hlen]) hbase hgb r1 r2 r3
    · constructor
      · intro hh; cases hh
      · intro hh
        rw [hh] at hlen
        have := hnil.2 (List.length_eq_zero_iff.1 hlen)
        cases this
    · exact hbl.grown (grownBy_sorted_i _) hbl.size (fun j hj => by cases hj; exact hbase)

theorem isFn_ok {f : Nat} {y : SV} (h : isFn f y = true) {ρ : Ren} {u : Value} (hu : VR ρ y u) : u = .func (.func f) #[] #[] := by
  unfold isFn at h
  split at h
  · rename_i g hg
    have h := Nat.eq_of_beq_eq_true h
    subst h
    rw [asFn_iff.1 hg, VR.fn_iff] at hu
    obtain ⟨xs, ys, rfl, h1, h2⟩ := hu
    rw [VRL.nil_iff.1 h1, VRL.nil_iff.1 h2]
  · cases h

theorem prim26 (K : CallF) : CallOk Tryz.prog 26 (sortedFP 71 28 2 K) := by
  intro args s v s' h C ρ xs w hargs hok
  refine .inr ⟨call26 xs w, ?_⟩
  unfold sortedFP at h
  split at h
  rotate_left
  · cases h
  rename_i x y
  obtain ⟨u, u2, e1, r1, r2⟩ := hargs.two
  have e2 : xs = #[u, u2] := Array.ext' e1
  subst e2
  split at h
  · cases h
  rename_i hfn
  have hu2 := isFn_ok hfn r2
  subst hu2
  split at h
  rotate_left
  · cases h
  rename_i es c hseq
  obtain ⟨Bm, b, arr, rfl, hBm, hm, hb, hms⟩ := seqM_ok hok hseq r1
  split at h
  rotate_left
  · cases h
  rename_i ns hns
  obtain ⟨q1, q2, q3⟩ := intsOf_ok hns hms
  dsimp only at h
  split at h
  rotate_left
  · cases h
  rename_i hcond
  simp only [Bool.and_eq_true] at hcond
  obtain ⟨c1, c2, c3⟩ := hcond
  have c3 := Nat.le_of_ble_eq_true c3
  rw [(mkInts_ok ρ _).2, (isort_perm ns).length_eq] at c3
  obtain ⟨b1, b2⟩ := bornsUp_ok c2
  have hlen : arr.size = ns.length := by
    have := congrArg List.length q1
    simpa using this
  have hnd : ns.Nodup := (isort_perm ns).nodup_iff.1 ((rises_pairwise c1).imp fun hh => Int.ne_of_lt hh)
  have hst : Stamped arr c := by
    refine ⟨fun m hm' => ?_, ?_, ?_⟩
    · have h1 : m.born ∈ arr.toList.map (·.born) := List.mem_map.2 ⟨m, hm', rfl⟩
      rw [q3] at h1
      obtain ⟨e, he, h2⟩ := List.mem_map.1 h1
      rw [← h2]
      exact b1 e he
    · rw [q3]
      exact b2.imp fun hh => Nat.ne_of_lt hh
    · rw [q1]
      exact (List.pairwise_map.2 (hnd.imp fun hne e => hne (by injection e)))
  refine (sorted26 hBm hm hb hst (by omega) q1 q2).mono ?_
  rintro e w' ⟨v', rfl, hrow, hnil, hbl⟩
  split at h
  · rename_i hr0
    cases h
    have hns0 : ns = [] := List.length_eq_zero_iff.1 (by rw [← (isort_perm ns).length_eq, hr0]; rfl)
    exact ⟨v', ρ, rfl, Ext.refl _ _, VR.nils_iff.2 (hnil.2 hns0), hok.below hbl⟩
  · rename_i hr0
    have hne : ns ≠ [] := fun hh => hr0 (by rw [hh]; rfl)
    have hok' := hok.below hbl
    have hsl : ns.length = (isort ns).length := (isort_perm ns).length_eq.symm
    obtain ⟨hn, rfl, rfl⟩ := new_ok h
    obtain ⟨hl1, ⟨rfl, h0⟩ | ⟨g, cap, cur, rfl, hg, hgo, hnc, _, hcs, htake⟩⟩ := hrow
    · exact absurd (List.length_eq_zero_iff.1 h0) hne
    have henc : (isort ns).map encZ = (isort ns).map fun n => Value.int .i64 n := rfl
    rw [henc] at htake
    have hml : (mkInts (isort ns)).length = ns.length := by rw [← lenV_eq, (mkInts_ok ρ _).2, hsl]
    have hcs' : cur.size = cap := by omega
    have hadopt := hok'.adopt (p := ⟨g, 0, cur.size⟩) (x := .cells (Nat.mul 2 2) (mkInts (isort ns))) (o := .cells cur 2 (0, 0)) hn rfl rfl rfl (fun b o _ hbo => hbo) hgo
      (fun i q hq hi => by have := hok.blk_lt hq hi; show q.blk ≠ g; omega)
      (fun k o hF => by
        have h1 := (hok.far k o hF).1
        have := (Array.getElem?_eq_some_iff.1 h1).1
        show k ≠ g
        omega)
      (by
        refine ⟨cur, rfl, Nat.le_refl _, ?_, ?_, ?_, fun hodd => absurd hodd (by decide)⟩
        · show 0 + _ ≤ cur.size
          rw [hml]
          omega
        · show VRL _ _ ((cur.toList.drop 0).take _)
          rw [List.drop_zero, hml, show ns.length = ns.length * 1 from (Nat.mul_one _).symm, htake]
          exact (mkInts_ok _ _).1
        · show ∀ y ∈ (cur.toList.drop 0).take _, _
          rw [List.drop_zero, hml, show ns.length = ns.length * 1 from (Nat.mul_one _).symm, htake]
          intro y hy
          obtain ⟨n, _, rfl⟩ := List.mem_map.1 hy
          rfl) rfl
    refine ⟨_, _, rfl, Ext.alloc hok hn _ _, ?_, hadopt⟩
    rw [(mkInts_ok ρ _).2, ← hsl]
    exact VR.sx_iff.2 ⟨_, _, _, Ren.up_same _ _ _, rfl, .inl ⟨rfl, hnc, by simp; omega⟩⟩

end Go.Exe
namespace Go.Exe
open Go Go.Proofs Go.Maps Go.MapKept Go.RowKit Go.Sort
open Go.WideElems (Fit rd rg pl)

/-- a host: three strings, a slice, a bool -/
structure HostV where
  name : List UInt8
  dc : List UInt8
  rack : List UInt8
  ad : Option Addr
  n : Nat
  c : Nat
  up : Bool
  deriving Inhabited
def HostV.cells (h : HostV) : List Value := [encStr h.name, encStr h.dc, encStr h.rack, .slice h.ad h.n h.c, .bool h.up]
def HostV.val (h : HostV) : Value := .agg ⟨h.cells⟩
theorem HostV.cells_inj {a b : HostV} (h : a.cells = b.cells) : a = b := by
  obtain ⟨n, d, r, ad, k, c, u⟩ := a
  obtain ⟨n', d', r', ad', k', c', u'⟩ := b
  simp only [HostV.cells, List.cons.injEq, and_true] at h
  obtain ⟨h1, h2, h3, h4, h5⟩ := h
  have h1 := encStr_inj h1
  have h2 := encStr_inj h2
  have h3 := encStr_inj h3
  injection h4 with h6 h7 h8
  injection h5 with h9
  subst h1 h2 h3 h6 h7 h8 h9
  rfl
theorem HostV.val_inj {a b : HostV} (h : a.val = b.val) : a = b := by
  unfold HostV.val at h
  injection h with h
  injection h with h
  exact HostV.cells_inj h
theorem HostV.cells_len (h : HostV) : h.cells.length = 5 := rfl
theorem HostV.cells_one (h : HostV) : ∀ v ∈ h.cells, v.oneCell' = true := by
  intro v hv
  simp only [HostV.cells, List.mem_cons, List.not_mem_nil, or_false] at hv
  rcases hv with rfl | rfl | rfl | rfl | rfl <;> rfl
theorem HostV.val_form (h : HostV) : h.val = .agg #[encStr h.name, encStr h.dc, encStr h.rack, .slice h.ad h.n h.c, .bool h.up] := rfl

open Classical in
/-- what a value of these reads as: its name -/
noncomputable def hostR (hs : List HostV) : Value → Option (DataW Unit × List MemPlace) := fun v => if h : ∃ c, c ∈ hs ∧ v = c.val then some (.lit (.string (Classical.choose h).name), []) else none
theorem hostR_val {hs : List HostV} {c : HostV} {y : DataW Unit × List MemPlace} (h : hostR hs c.val = some y) : c ∈ hs ∧ y.1 = .lit (.string c.name) := by
  unfold hostR at h
  split at h
  · rename_i hh
    obtain ⟨h1, h2⟩ := Classical.choose_spec hh
    have h2 := HostV.val_inj h2
    cases h
    rw [← h2] at h1
    refine ⟨h1, ?_⟩
    rw [← h2]
  · cases h
theorem hostR_inv {hs : List HostV} {v : Value} {y : DataW Unit × List MemPlace} (h : hostR hs v = some y) : ∃ c : HostV, v = c.val := by
  unfold hostR at h
  split at h
  · rename_i hh
    exact ⟨_, (Classical.choose_spec hh).2⟩
  · cases h
theorem hostR_of {hs : List HostV} {c : HostV} (h : c ∈ hs) : hostR hs c.val = some (.lit (.string c.name), []) := by
  unfold hostR
  rw [dif_pos ⟨c, h, rfl⟩]
  have hh : ∃ d, d ∈ hs ∧ c.val = d.val := ⟨c, h, rfl⟩
  have := HostV.val_inj (Classical.choose_spec hh).2
  rw [← this]

theorem own_host {P : Program} {k : TypeId} (hk : P.underlying k = some .string) {w : World} {b c : Nat} {arr : Array MapEntry} (hb : w.heap[b]? = some (.map arr c)) (hst : Stamped arr c) (hsz : arr.size ≤ maxLen)
    {hs : List HostV} (hkv : arr.toList.map (fun m => (m.key, m.val)) = hs.map fun h => (encStr h.name, h.val)) (hwf : ∀ n ∈ hs, n.name.length ≤ maxLen) :
    ∃ D0 : DataW Unit, w.ownsMap P k (hostR hs) b arr.size D0 ∧ (strKeys D0).Perm (hs.map (·.name)) ∧ Maps.size D0 = arr.size ∧ ∀ x y, (∀ zd, D0.atKey (.string x) zd = y) → y = .lit (.string x) := by
  have hrd : ∀ x ∈ arr.toList, ∃ n ∈ hs, x.key = encStr n.name ∧ x.val = n.val ∧ rd P k (hostR hs) x = some (.string n.name, .lit (.string n.name)) := by
    intro x hx
    have h1 : (x.key, x.val) ∈ arr.toList.map (fun m => (m.key, m.val)) := List.mem_map.2 ⟨x, hx, rfl⟩
    rw [hkv] at h1
    obtain ⟨n, hn, e⟩ := List.mem_map.1 h1
    injection e with e1 e2
    refine ⟨n, hn, e1.symm, e2.symm, ?_⟩
    unfold WideElems.rd
    rw [← e1, ← e2, hostR_of hn]
    have h2 : keyOf P k (encStr n.name) = some (.string n.name) := WideMaps.keyOf_string_mk hk (s := ⟨n.name.toArray⟩) (by show n.name.toArray.size ≤ _; simpa using hwf n hn)
    rw [h2]
    rfl
  have hmap : arr.toList.map (rg P k (hostR hs)) = hs.map fun h => ((.string h.name : Lit), (.lit (.string h.name) : DataW Unit)) := by
    have key : ∀ (l : List MapEntry) (ms : List HostV), l.map (fun m => (m.key, m.val)) = ms.map (fun h => (encStr h.name, h.val)) → (∀ x ∈ l, ∃ n : HostV, x.key = encStr n.name ∧ rd P k (hostR hs) x = some (.string n.name, .lit (.string n.name))) →
        l.map (rg P k (hostR hs)) = ms.map fun h => ((.string h.name : Lit), (.lit (.string h.name) : DataW Unit)) := by
      intro l
      induction l with
      | nil => intro ms h _; cases ms <;> first | rfl | cases h
      | cons x l ih =>
        intro ms h hr
        cases ms with
        | nil => cases h
        | cons m ms =>
          simp only [List.map_cons, List.cons.injEq, Prod.mk.injEq] at h
          obtain ⟨n, e, hx⟩ := hr x (by simp)
          rw [e] at h
          obtain ⟨⟨h1, _⟩, h2⟩ := h
          have h3 := encStr_inj h1
          rw [List.map_cons, List.map_cons, ih ms h2 (fun y hy => hr y (by simp [hy])), WideElems.rg_of hx, h3]
    exact key _ _ hkv fun x hx => by obtain ⟨n, _, h1, _, h2⟩ := hrd x hx; exact ⟨n, h1, h2⟩
  refine ⟨.map ((arr.toList.map (rg P k (hostR hs))).foldr DataW.insert []), ⟨arr, c, hb, ⟨hsz, hst, fun x hx => ?_⟩, Nat.le_refl _, rfl⟩, ?_, ?_, ?_⟩
  · obtain ⟨n, _, _, _, h⟩ := hrd x hx
    exact ⟨_, h⟩
  · show (((arr.toList.map (rg P k (hostR hs))).foldr DataW.insert []).map fun p => Go.strOf p.1).Perm _
    refine ((WideShapes.sorted_perm _).map _).trans ?_
    rw [hmap, List.map_map]
    exact .refl _
  · show (((arr.toList.map (rg P k (hostR hs))).foldr DataW.insert [])).length = _
    rw [length_sorted]
    simp
  · intro x y hy
    have h1 := hy
    simp only [DataW.atKey] at h1
    cases hf : ((arr.toList.map (rg P k (hostR hs))).foldr DataW.insert []).find? (fun p => p.1.sameKey (.string x)) with
    | none =>
      simp only [hf] at h1
      have e1 := h1 .nil
      have e2 := h1 (.lit (.bool true))
      rw [← e1] at e2
      cases e2
    | some p =>
      simp only [hf] at h1
      have hp := List.mem_of_find?_eq_some hf
      have hs1 := List.find?_some hf
      have hp2 : p ∈ arr.toList.map (rg P k (hostR hs)) := (WideShapes.sorted_perm _).mem_iff.1 hp
      rw [hmap] at hp2
      obtain ⟨n, _, rfl⟩ := List.mem_map.1 hp2
      have hnx : n.name = x := by simpa [Lit.sameKey] using hs1
      rw [← h1 .nil, hnx]

theorem perm_hosts {hs ps : List HostV} (hnd : (hs.map (·.name)).Nodup) (hsub : ∀ p ∈ ps, p ∈ hs) (hn : (ps.map (·.name)).Perm (hs.map (·.name))) : ps.Perm hs := by
  have hnp : (ps.map (·.name)).Nodup := hn.nodup_iff.2 hnd
  have nd : ∀ {l : List HostV}, (l.map (·.name)).Nodup → l.Nodup := fun h => (List.pairwise_map.1 h).imp fun hne e => hne (by rw [e])
  refine (List.perm_ext_iff_of_nodup (nd hnp) (nd hnd)).2 fun c => ⟨hsub c, fun hc => ?_⟩
  have h1 : c.name ∈ ps.map (·.name) := hn.mem_iff.2 (List.mem_map.2 ⟨c, hc, rfl⟩)
  obtain ⟨d, hd, e⟩ := List.mem_map.1 h1
  have hd' := hsub d hd
  -- the name is there once
  have : d = c := by
    obtain ⟨i, hi⟩ := List.mem_iff_getElem?.1 hd'
    obtain ⟨j, hj⟩ := List.mem_iff_getElem?.1 hc
    have h2 : (hs.map (·.name))[i]? = some c.name := by rw [List.getElem?_map, hi]; simpa using e
    have h3 : (hs.map (·.name))[j]? = some c.name := by rw [List.getElem?_map, hj]; rfl
    have hij : i = j := by
      have hi' := (List.getElem?_eq_some_iff.1 h2).1
      exact (List.getElem?_inj hi' hnd).1 (h2.trans h3.symm)
    subst hij
    rw [hi] at hj
    cases hj
    rfl
  rw [← this]
  exact hd

set_option maxRecDepth 100000 in
set_option maxHeartbeats 2000000 in
/-- the iterator over a map's values -/
theorem values187 (F : Fence) (n : Nat) (hf : F.fn 187) (hro : F.round = none) (hn : 1 ≤ n) (l Bm b nn : Nat) (D0 : DataW Unit) (hs : List HostV) (hnd : (hs.map (·.name)).Nodup) (hperm : (strKeys D0).Perm (hs.map (·.name)))
    (hat0 : ∀ x y, (∀ zd, D0.atKey (.string x) zd = y) → y = .lit (.string x)) (J : List HostV → World → Prop)
    (hY : ∀ pre x W, J pre W → pre.length < Maps.size D0 → YieldAt F (n - 1) Tryz.prog l #[HostV.val x] W fun e W' => e = .returned (.bool true) ∧ J (pre ++ [x]) W' ∧ KeepsWalks W W')
    (W : World) (hJ : AbidesFrom W.heap.size J) (hm : W.cell? ⟨Bm, 0, none⟩ = some (.map (some b))) (hown : W.ownsMap Tryz.prog 9 (hostR hs) b nn D0) (h0 : J [] W) :
    CallsIn F n Tryz.prog 187 #[.func (.yield l) #[] #[], .pointer (some ⟨Bm, 0, none⟩)] W fun e W' => (∃ v, e = .returned v) ∧ ∃ ps : List HostV, ps.Perm hs ∧ J ps W' := by
  have mixed : Tryz.prog.follows .mixedOrders = true := follows_mixed
  have k9 : Tryz.prog.underlying 9 = some .string := Tryz.underlying9
  have k241 : Tryz.prog.underlying 241 = some (.map 9 69) := by kernel_rfl
  refine callsIn_of_wp Tryz.func187 rfl hf ?_ hro
  simp only [Tryz.ntmps187, List.size_toArray, List.length_cons, List.length_nil, Nat.reduceAdd, Nat.reduceSub, Array.replicate_succ, Array.replicate_zero, List.push_toArray, List.append_toArray, List.nil_append, List.cons_append]
  gi_wp2_with (first
    | (gi_at_range; refine wpListIn_range_own _ rfl _ 241 rfl 9 69 (string_keyed k9) k241 _ b nn _ rfl hown ?_; intro w0 hrg0 hg0 hs0)
    | gi_in)
  go_frame
  gi_loopw [4] (fun _ wr => ∃ (left : Lit → Bool) (cnt : Nat) (ps : List HostV), wr.ranges Tryz.prog 9 (hostR hs) b W.heap.size nn D0 left cnt ∧ ps.length + cnt ≤ Maps.size D0 ∧ Collected D0 left (ps.map (·.name)) ∧ (∀ p ∈ ps, p ∈ hs) ∧ J ps wr)
    (fun _ wr => wr.rangeLeft b W.heap.size)
  case atStart =>
    exact ⟨_, _, [], hrg0, by simp, Collected.start D0, by simp, hJ [] W w0 none h0 hg0 (fun r e => by cases e)⟩
  case round =>
    obtain ⟨left, cnt, ps, hrg, hcs, hC, hV, hJs⟩ := hrel
    gi_wp2_with (first
      | (gi_at_next; refine wpListIn_next_ranges _ rfl _ rfl 9 (string_keyed k9) (hostR hs) encStr HostV.val (fun key kl hk => by obtain ⟨x, hx, _⟩ := Maps.keyOf_str k9 hk; exact ⟨x, hx⟩) (fun v y hv => hostR_inv hv) b W.heap.size nn _ _ _ rfl hrg ?_ ?_)
      | gi_in)
    · -- nothing is left
      intro hc0 hl0
      gi_wp2
      go_end0
      exact ⟨⟨_, rfl⟩, ps, perm_hosts hnd hV ((hC.perm hown (string_keyed k9) k9 hl0).trans hperm), hJs⟩
    · -- an entry
      intro x c kl yd yp w2 cnt2 hkey hlk hv hat hrg2 hlt hg2 hs2 hen
      obtain ⟨x', ex, rfl, _⟩ := Maps.keyOf_str k9 hkey
      obtain rfl : x = x' := encStr_inj ex
      obtain ⟨hch, hyd⟩ := hostR_val hv
      have hxn : yd = .lit (.string x) := hat0 x _ hat
      have hyd : yd = .lit (.string c.name) := hyd
      have hcx : c.name = x := by
        rw [hyd] at hxn
        simpa using hxn
      have hJ2 : J ps w2 := hJ ps wr w2 (some W.heap.size) hJs hg2 (fun r e => by cases e; exact ⟨Nat.le_refl _, hrg.iter_walk⟩)
      subst hcx
      have hg3 : w2.grownBy (w2.alloc (.cells #[.string ⟨c.name.toArray⟩, .string ⟨c.dc.toArray⟩, .string ⟨c.rack.toArray⟩, .slice c.ad c.n c.c, .bool c.up] 69)) none :=
        ⟨rfl, rfl, rfl, by simp, fun k hk _ => Below.heap_alloc _ _ k hk⟩
      have hk3 : KeepsWalks w2 (w2.alloc (.cells #[.string ⟨c.name.toArray⟩, .string ⟨c.dc.toArray⟩, .string ⟨c.rack.toArray⟩, .slice c.ad c.n c.c, .bool c.up] 69)) := KeepsWalks.alloc _ _
      have hJ3 := hJ ps _ _ none hJ2 hg3 (fun r e => by cases e)
      obtain ⟨fn, tmps, assign, body, hy, hR⟩ := hY ps c _ hJ3 (by omega)
      simp only [HostV.val, HostV.cells] at hy
      rw [c.val_form] at hen hv ⊢
      clear hs2
      gi_wp2
      refine hR.mono ?_
      rintro e W3 ⟨rfl, hJ4, hk4⟩
      gi_wp2
      have hrg3 := hrg2.of_walks (hk3.trans hk4)
      go_roundw
      case rel => exact ⟨_, cnt2, ps ++ [c], hrg3, by simp; omega, by simpa using hC.step hlk hat, fun p hp => (List.mem_append.1 hp).elim (hV p) (fun e => by simp at e; subst e; exact hch), hJ4⟩
      case measure => rw [hrg3.left_eq, hrg.left_eq]; exact hlt

/-- maps.Values(m) hands back an iterator over m's values -/
theorem values_gives (F : Fence) (n : Nat) (hf : F.fn 187) (hro : F.round = none) (hn : 1 ≤ n) (Bm b nn : Nat) (D0 : DataW Unit) (hs : List HostV) (hnd : (hs.map (·.name)).Nodup) (hperm : (strKeys D0).Perm (hs.map (·.name)))
    (hat0 : ∀ x y, (∀ zd, D0.atKey (.string x) zd = y) → y = .lit (.string x)) (w : World) (hBm : Bm < w.heap.size) (hm : w.cell? ⟨Bm, 0, none⟩ = some (.map (some b))) (hown : w.ownsMap Tryz.prog 9 (hostR hs) b nn D0) :
    SeqGives F n Tryz.prog 187 #[.pointer (some ⟨Bm, 0, none⟩)] HostV.val (fun ps => ps.Perm hs) (Maps.size D0) w := fun l J W hW hJ hY h0 => by
  have hown' : W.ownsMap Tryz.prog 9 (hostR hs) b nn D0 := by
    have hbl := hown.lt
    obtain ⟨es, clock, hb, Ft, hss, hD⟩ := hown
    exact ⟨es, clock, (hW.block b hbl).trans hb, Ft, hss, hD⟩
  exact values187 F n hf hro hn l Bm b nn D0 hs hnd hperm hat0 J hY W hJ ((hW.cell (p := ⟨Bm, 0, none⟩) hBm).trans hm) hown' h0

end Go.Exe
namespace Go.Exe
open Go Go.Proofs Go.Maps Go.MapKept Go.RowKit Go.Sort Go.Shelf

def flatH (l : List HostV) : List Value := l.flatMap HostV.cells
theorem flatH_snoc (l : List HostV) (x : HostV) : flatH (l ++ [x]) = flatH l ++ x.cells := by simp [flatH]
def zeroH : Value := .agg #[.string .empty, .string .empty, .string .empty, .slice none 0 0, .bool false]
theorem cells_newH (w : World) (x : HostV) (j : Nat) (u : Value) (hu : x.cells[j]? = some u) : (w.alloc (.cells #[.string ⟨x.name.toArray⟩, .string ⟨x.dc.toArray⟩, .string ⟨x.rack.toArray⟩, .slice x.ad x.n x.c, .bool x.up] 69)).cell? ((⟨w.heap.size, 0, none⟩ : Addr).add j) = some u := by
  have h : (⟨x.cells⟩ : Array Value)[j]? = some u := by rw [← Array.getElem?_toList]; exact hu
  rw [Addr.add_mid]
  unfold World.cell?
  rw [World.alloc_heap_new]
  show (if _ then none else (⟨x.cells⟩ : Array Value)[0 + j]?) = some u
  rw [Nat.zero_add, h]
  rfl

theorem fs278 : fsF 278 = some Tryz.f278 := by kernel_rfl
theorem call278 (xs : Array Value) (w : World) : (callFunc 278 xs).run Tryz.prog w = .ok (.enter 278 xs) w := by
  have hb : ∃ c, Tryz.f278.body = some c := ⟨_, rfl⟩
  obtain ⟨c, hb⟩ := hb
  exact callFunc_body fs278 hb xs w

def apAssignH : Code := (Code.region 2 #[{ dst := some 5, op := Op.alloc 69, type := 0, pos := "iter.go:51", after := #[], guard := none }, { dst := none, op := Op.store 69 (Operand.tmp 5) (Operand.tmp 7), type := 0, pos := "iter.go:51", after := #[{ on := 0, ground := Ground.data }, { on := 0, ground := Ground.phase }], guard := none }] false)
def apBodyH : Code := (Code.block 1 (Code.region 3 #[{ dst := some 8, op := Op.load 26 (Operand.tmp 2), type := 26, pos := "iter.go:52", after := #[], guard := none }, { dst := some 9, op := Op.load 69 (Operand.tmp 5), type := 69, pos := "iter.go:52", after := #[], guard := none }, { dst := some 10, op := Op.buildSlice 26 1 #[(0, Operand.tmp 9)], type := 26, pos := "iter.go:52", after := #[{ on := 1, ground := Ground.data }], guard := none }, { dst := some 11, op := Op.call { callee := Callee.builtin Builtin.append, args := #[Operand.tmp 8, Operand.tmp 10], argTypes := #[26, 26] }, type := 26, pos := "iter.go:52", after := #[{ on := 0, ground := Ground.data }, { on := 2, ground := Ground.data }], guard := none }, { dst := none, op := Op.store 26 (Operand.tmp 2) (Operand.tmp 11), type := 0, pos := "iter.go:52", after := #[{ on := 3, ground := Ground.data }, { on := 3, ground := Ground.chain }, { on := 0, ground := Ground.phase }, { on := 1, ground := Ground.phase }, { on := 2, ground := Ground.phase }, { on := 3, ground := Ground.phase }], guard := none }] false))
/-- The loop's record: AppendSeq's temporaries as they stood at the entering: 's' boxed in block Bs; sv: the iterator's value. -/
def HapRec (fn : FuncId) (sv : Value) (Bs D : Nat) (st : LoopState) (pend : Option Code) : Loop :=
  { state := st, pending := pend, fn, tmps := #[.slice none 0 0, sv, .pointer (some ⟨Bs, 0, none⟩), undef, .slice none 0 0, undef, sv, undef, undef, undef, undef, undef, undef], params := #[7], assign := apAssignH, body := apBodyH, defers := D }

/-- BETWEEN TWO ROUNDS: the box holds a slice that owns, in a block of the call's own, what has come so far; IT IS nil JUST AS LONG AS NOTHING HAS COME; nothing that lay before the call has turned. -/
structure HApAt (w0 : World) (fn : FuncId) (sv : Value) (Bs l D : Nat) (ss : List HostV) (W : World) : Prop where
  box : ∃ v, W.heap[Bs]? = some (.cells #[v] 26 (0, 0)) ∧ W.ownsRow w0.heap.size 69 5 v ss.length (flatH ss) ∧ (v = .slice none 0 0 ↔ ss = [])
  L : W.heap[l]? = some (.loop (HapRec fn sv Bs D .ready none))
  K : W.heap[D]? = some (.deferred (some []))
  below : Below w0.heap.size w0 W

theorem Hap_abides (w0 : World) (fn : FuncId) (sv : Value) (Bs l D B : Nat) (hB : w0.heap.size ≤ B) : AbidesFrom B (HApAt w0 fn sv Bs l D) := fun s W W' row h hg hrow => by
  have hrow' : ∀ r, row = some r → ∃ o : Obj, W.heap[r]? = some o ∧ o.isWalk = true := fun r e => (hrow r e).2
  obtain ⟨v, hv, hr, hn⟩ := h.box
  exact ⟨⟨v, (grownBy_keeps hg hrow' hv rfl).trans hv, ownsRow_abides_a hr hg hrow', hn⟩, (grownBy_keeps hg hrow' h.L rfl).trans h.L, (grownBy_keeps hg hrow' h.K rfl).trans h.K,
    h.below.grown hg h.below.size (fun k e => Nat.le_trans hB (hrow k e).1)⟩

set_option maxRecDepth 100000 in
set_option maxHeartbeats 2000000 in
theorem HapYield (F : Fence) (m : Nat) (w0 : World) (fn : FuncId) (hfn : F.fn fn) (sv : Value) (Bs l D : Nat) (hBl : Bs ≠ l) (hDl : D ≠ l) (hDB : D ≠ Bs) (h0B : w0.heap.size ≤ Bs) (h0l : w0.heap.size ≤ l)
    (N : Nat) (hN : N ≤ maxLen) (hNb : N * 80 ≤ 140737488355328) (ss : List HostV) (x : HostV) (W : World) (h : HApAt w0 fn sv Bs l D ss W) (hlen : ss.length < N) :
    YieldAt F m Tryz.prog l #[HostV.val x] W fun e W' => e = .returned (.bool true) ∧ HApAt w0 fn sv Bs l D (ss ++ [x]) W' ∧ KeepsWalks W W' := by
  have mixed : Tryz.prog.follows .mixedOrders = true := follows_mixed
  have hne : (26 : Nat) ≠ 69 := by decide
  have hi : Tryz.prog.info? 69 = some Tryz.t69 := by kernel_rfl
  have hz0 : Tryz.t69.zero = some zeroH := by kernel_rfl
  have hz1 : Tryz.t69.size = 5 := by kernel_rfl
  have hz2 : Tryz.t69.bytes = 80 := by kernel_rfl
  have ht26 : Tryz.prog.underlying 26 = some (.slice 69) := Tryz.underlying26
  obtain ⟨W9, hW9⟩ : ∃ W9, W.alloc (.cells #[.string ⟨x.name.toArray⟩, .string ⟨x.dc.toArray⟩, .string ⟨x.rack.toArray⟩, .slice x.ad x.n x.c, .bool x.up] 69) = W9 := ⟨_, rfl⟩
  have hg9 : W.grownBy W9 none := by rw [← hW9]; exact ⟨rfl, rfl, rfl, by simp, fun k hk _ => Below.heap_alloc _ _ k hk⟩
  have hk9 : KeepsWalks W W9 := by rw [← hW9]; exact KeepsWalks.alloc _ _
  have h9 := Hap_abides w0 fn sv Bs l D w0.heap.size (Nat.le_refl _) ss W W9 none h hg9 (fun r e => by cases e)
  have hl0 : l < W.heap.size := (Array.getElem?_eq_some_iff.1 h.L).1
  have hB0 : Bs < W.heap.size := by obtain ⟨v, hv, _⟩ := h.box; exact (Array.getElem?_eq_some_iff.1 hv).1
  have hcell9 : ∀ j u, x.cells[j]? = some u → W9.cell? ⟨W.heap.size, j, none⟩ = some u := fun j u hu => by
    rw [← hW9]
    have := cells_newH W x j u hu
    rwa [show ((⟨W.heap.size, 0, none⟩ : Addr).add j) = ⟨W.heap.size, j, none⟩ by rw [Addr.add_mid]; simp] at this
  have hy0 := run_yield (P := Tryz.prog) (args := #[HostV.val x]) h.L rfl
  obtain ⟨v, hv, hrow, _⟩ := h9.box
  refine ⟨fn, #[.slice none 0 0, sv, .pointer (some ⟨Bs, 0, none⟩), undef, .slice none 0 0, undef, sv, HostV.val x, undef, undef, undef, undef, undef], apAssignH, apBodyH, by simpa [HapRec] using hy0, roundIn_of_wpIn hfn ?_⟩
  clear hy0
  have hl : l < W9.heap.size := (Array.getElem?_eq_some_iff.1 h9.L).1
  have hbr := run_beginRound (P := Tryz.prog) h9.L rfl
  obtain ⟨W2, hW2⟩ : ∃ W2, W9.putObj l (.loop { HapRec fn sv Bs D .ready none with state := .busy }) = W2 := ⟨_, rfl⟩
  rw [hW2] at hbr
  have hg2 : W9.grownBy W2 (some l) := by rw [← hW2]; exact grownBy_putObj_a _ _ _
  have hk2 : KeepsWalks W9 W2 := by rw [← hW2]; exact KeepsWalks.putObj _ h9.L rfl
  have hv2 : W2.heap[Bs]? = some (.cells #[v] 26 (0, 0)) := by rw [← hW2]; exact (World.putObj_heap_other hBl).trans hv
  have hK2 : W2.heap[D]? = some (.deferred (some [])) := by rw [← hW2]; exact (World.putObj_heap_other hDl).trans h9.K
  have hL2 : W2.heap[l]? = some (.loop { HapRec fn sv Bs D .ready none with state := .busy }) := by rw [← hW2]; exact World.putObj_heap_same hl
  have hrow2 : W2.ownsRow w0.heap.size 69 5 v ss.length (flatH ss) := hrow.kept hg2 (ownsRow_ne_a hrow h9.L (fun cur e => by first | cases e | exact hne (Obj.cells.inj e).2.1))
  have hb2 : Below w0.heap.size w0 W2 := h9.below.grown hg2 h9.below.size (fun k e => by cases e; exact h0l)
  obtain ⟨hc2, hf2⟩ := cell_of_box_a hv2
  have hBlt : Bs < W2.heap.size := (Array.getElem?_eq_some_iff.1 hv2).1
  have hl2 : l < W2.heap.size := (Array.getElem?_eq_some_iff.1 hL2).1
  have hDlt : D < W2.heap.size := (Array.getElem?_eq_some_iff.1 hK2).1
  have ne_of : ∀ {j : Nat} {o : Obj}, W2.heap[j]? = some o → (∀ cur, o ≠ .cells cur 69 (0, 0)) → some j ≠ v.ownBlock := fun hj hno => by
    rcases ownsRow_ne_a hrow2 hj hno with e | e
    · rw [e]; simp
    · exact fun e' => e e'.symm
  have hcell2 : ∀ j u, x.cells[j]? = some u → W2.cell? ⟨W.heap.size, j, none⟩ = some u := fun j u hu => by
    have h1 := hcell9 j u hu
    have h2 : W2.heap[W.heap.size]? = W9.heap[W.heap.size]? := by rw [← hW2]; exact World.putObj_heap_other (by omega)
    unfold World.cell? at h1 ⊢
    rw [h2]
    exact h1
  obtain ⟨bx, hbx⟩ : ∃ bx, W.heap.size = bx := ⟨_, rfl⟩
  rw [hbx] at hcell2 hl0 hB0
  have c0 := hcell2 0 _ rfl
  have c1 := hcell2 1 _ rfl
  have c2 := hcell2 2 _ rfl
  have c3 := hcell2 3 _ rfl
  have c4 := hcell2 4 _ rfl
  have hBx : ¬ Bs = bx := by omega
  clear hW2 hcell9 hcell2
  rw [x.val_form]
  unfold apAssignH
  gi_wp2_with gi_round_op_a
  clear hW9
  unfold apBodyH
  gi_wp2_with (first
    | (gi_at_builtin; refine wpListIn_append_own _ rfl _ _ 26 rfl w0.heap.size 69 Tryz.t69 zeroH 5 80 ht26 hi hz0 hz1 hz2 rfl (by decide) _ _ _ rfl (hrow2.alloc _) ⟨W2.heap.size, 0, none⟩ 1 1 x.cells rfl rfl (cells_newH W2 x) x.cells_one (by omega) (by omega) (by have := hb2.size; simp; omega) ?_; intro v' w3 hown' hg3 hnil3
       have hv3 : w3.heap[Bs]? = some (.cells #[v] 26 (0, 0)) := (hg3.block Bs (by simp; omega) (ne_of hv2 (fun cur e => by first | cases e | exact hne (Obj.cells.inj e).2.1))).trans ((Below.heap_alloc _ _ Bs hBlt).trans hv2)
       obtain ⟨hc3, hf3⟩ := cell_of_box_a hv3
       obtain ⟨g', cap', cur', rfl, hbase', hgb', hr1, hr2, hr3, hr4⟩ : ∃ g' cap' cur', v' = .slice (some ⟨g', 0, none⟩) (ss.length + 1) cap' ∧ w0.heap.size ≤ g' ∧ w3.heap[g']? = some (.cells cur' 69 (0, 0)) ∧ ss.length + 1 ≤ cap' ∧ cap' ≤ maxLen ∧ cur'.size = cap' * 5 ∧ cur'.toList.take ((ss.length + 1) * 5) = flatH ss ++ x.cells := by
         rcases hown'.2 with ⟨_, h0⟩ | h'
         · exact absurd h0 (by omega)
         · exact h'
       go_frame)
    | gi_round_op_a)
  have hg3' : (W2.alloc (.cells #[.string ⟨x.name.toArray⟩, .string ⟨x.dc.toArray⟩, .string ⟨x.rack.toArray⟩, .slice x.ad x.n x.c, .bool x.up] 69)).grownBy w3 v.ownBlock := hg3
  have hL3 : w3.heap[l]? = some (.loop { HapRec fn sv Bs D .ready none with state := .busy }) := (hg3'.block l (by simp; omega) (ne_of hL2 (fun cur e => by first | cases e | exact hne (Obj.cells.inj e).2.1))).trans ((Below.heap_alloc _ _ l hl2).trans hL2)
  have hK3 : w3.heap[D]? = some (.deferred (some [])) := (hg3'.block D (by simp; omega) (ne_of hK2 (fun cur e => by first | cases e | exact hne (Obj.cells.inj e).2.1))).trans ((Below.heap_alloc _ _ D hDlt).trans hK2)
  obtain ⟨w4, hw4⟩ : ∃ w4, w3.setCell ⟨Bs, 0, none⟩ (.slice (some ⟨g', 0, none⟩) (ss.length + 1) cap') = w4 := ⟨_, rfl⟩
  rw [hw4]
  have hg4 : w3.grownBy w4 (some Bs) := by rw [← hw4]; exact grownBy_setCell0_a _ _ _
  have hv4 : w4.heap[Bs]? = some (.cells #[.slice (some ⟨g', 0, none⟩) (ss.length + 1) cap'] 26 (0, 0)) := by rw [← hw4]; exact heap_setCell_box_a _ hv3
  have hL4 : w4.heap[l]? = some (.loop { HapRec fn sv Bs D .ready none with state := .busy }) := (hg4.block l (Array.getElem?_eq_some_iff.1 hL3).1 (fun e => hBl (by cases e; rfl))).trans hL3
  have hK4 : w4.heap[D]? = some (.deferred (some [])) := (hg4.block D (Array.getElem?_eq_some_iff.1 hK3).1 (fun e => hDB (by cases e; rfl))).trans hK3
  have hrow4 := hown'.kept hg4 (ownsRow_ne_a hown' hv3 (fun cur e => by first | cases e | exact hne (Obj.cells.inj e).2.1))
  have hl4 : l < w4.heap.size := (Array.getElem?_eq_some_iff.1 hL4).1
  have hb3 : Below w0.heap.size w0 w3 := (hb2.alloc hb2.size _).grown hg3' (by have := hb2.size; simp; omega) (fun k e => (hrow2.lt k e).1)
  have hb4 : Below w0.heap.size w0 w4 := hb3.grown hg4 hb3.size (fun k e => by cases e; exact h0B)
  have hk4 : KeepsWalks W9 w4 := ((hk2.trans (KeepsWalks.alloc _ _)).trans (KeepsWalks.of_grownBy hg3' (ownsRow_not_walk_a (hrow2.alloc _)))).trans (by rw [← hw4]; exact KeepsWalks.setCell _ _ _)
  clear hw4
  refine ⟨_, _, run_endRound none hL4, rfl, ⟨⟨_, (World.putObj_heap_other hBl).trans hv4, ?_, by simp⟩, World.putObj_heap_same hl4, (World.putObj_heap_other hDl).trans hK4, hb4.grown (grownBy_putObj_a _ _ _) hb4.size (fun k e => by cases e; exact h0l)⟩, (hk9.trans hk4).trans (KeepsWalks.putObj _ hL4 rfl)⟩
  have := hrow4.kept (grownBy_putObj_a w4 l (.loop { { HapRec fn sv Bs D .ready none with state := .busy } with state := if (none : Option Code).isNone then .ready else .done, pending := none })) (ownsRow_ne_a hrow4 hL4 (fun cur e => by first | cases e | exact hne (Obj.cells.inj e).2.1))
  rw [flatH_snoc]
  simpa using this


set_option maxRecDepth 100000 in
set_option maxHeartbeats 2000000 in
/-- **slices.AppendSeq(nil, seq), AGAINST WHATEVER ITERATOR VALUE THAT 'SeqGives'**: it hands back a slice that owns, in a block of the call's own, JUST WHAT THE ITERATOR GAVE, IN THAT ORDER; nil JUST WHERE IT GAVE NOTHING (as Go: 'slices.Collect' of nothing is nil); nothing that lay before the call has turned. -/
theorem HappendSeq_in (F : Fence) (n : Nat) (h11 : F.fn 278) (hro : F.round = none) (hn : 2 ≤ n) (g : Nat) (lb : Array Value) (hFg : F.fn g) (eg : ∀ args w, (callFunc g args).run Tryz.prog w = .ok (.enter g args) w)
    (S : List HostV → Prop) (N : Nat) (hN : N ≤ maxLen) (hNb : N * 80 ≤ 140737488355328) (w : World) (hseq : SeqGives F (n - 1) Tryz.prog g lb HostV.val S N w) :
    CallsIn F n Tryz.prog 278 #[.slice none 0 0, .func (.func g) #[] lb] w fun e w' => ∃ (v : Value) (ss : List HostV), e = .returned v ∧ S ss ∧ w'.ownsRow w.heap.size 69 5 v ss.length (flatH ss) ∧ (v = .slice none 0 0 ↔ ss = []) ∧ Below w.heap.size w w' := by
  have h1 : 1 ≤ n := by omega
  have mixed : Tryz.prog.follows .mixedOrders = true := follows_mixed
  have hne : (26 : Nat) ≠ 69 := by decide
  have FG := Tryz.func278
  refine callsIn_of_wp_marks FG rfl h11 ?_ hro
  simp only [Tryz.ntmps278, List.size_toArray, List.length_cons, List.length_nil, Nat.reduceAdd, Nat.reduceSub, Array.replicate_succ, Array.replicate_zero, List.push_toArray, List.append_toArray, List.nil_append, List.cons_append]
  gi_wp2
  refine wpIn_rangeFunc ?_
  intro fn hfn
  rw [hro]
  obtain ⟨W0, hW0⟩ : ∃ W0, w.alloc (.cells #[.slice none 0 0] 26) = W0 := ⟨_, rfl⟩
  have hs0 : W0.heap.size = w.heap.size + 1 := by rw [← hW0]; simp
  have hv0 : W0.heap[w.heap.size]? = some (.cells #[.slice none 0 0] 26 (0, 0)) := by rw [← hW0]; exact World.alloc_heap_new w _
  have hb0 : Below w.heap.size w W0 := by rw [← hW0]; exact (Below.refl _ w).alloc (Nat.le_refl _) _
  rw [hW0]
  obtain ⟨W1, hW1⟩ : ∃ W1, (W0.alloc (.deferred (some []))).alloc (.loop (HapRec fn (.func (.func g) #[] lb) w.heap.size W0.heap.size .ready none)) = W1 := ⟨_, rfl⟩
  have hold : ∀ k, k < W0.heap.size → W1.heap[k]? = W0.heap[k]? := fun k hk => by
    rw [← hW1]; exact (Below.heap_alloc _ _ k (by simp; omega)).trans (Below.heap_alloc _ _ k hk)
  have hb1 : Below w.heap.size w W1 := by rw [← hW1]; exact (hb0.alloc hb0.size _).alloc (by have := hb0.size; simp; omega) _
  have hs1 : W1.heap.size = W0.heap.size + 2 := by rw [← hW1]; simp
  have hM : HApAt w fn (.func (.func g) #[] lb) w.heap.size (W0.heap.size + 1) W0.heap.size [] W1 :=
    ⟨⟨_, (hold w.heap.size (by omega)).trans hv0, ⟨rfl, .inl ⟨rfl, rfl⟩⟩, by simp⟩,
     by rw [← hW1]; have := World.alloc_heap_new (W0.alloc (.deferred (some []))) (.loop (HapRec fn (.func (.func g) #[] lb) w.heap.size W0.heap.size .ready none)); rwa [World.size_alloc] at this,
     by rw [← hW1]; exact (Below.heap_alloc _ _ _ (by simp)).trans (World.alloc_heap_new W0 _), hb1⟩
  refine ⟨W0.heap.size + 1, [{ target := .collected W0.heap.size, args := #[] }], W1, { target := .fn (.func g) lb, args := #[.func (.yield (W0.heap.size + 1)) #[] #[]] }, W1, g,
    #[.func (.yield (W0.heap.size + 1)) #[] #[]] ++ lb, W1, ?_, ?_, ?_, ?_, fun _ => h1, ?_⟩
  · rw [← hW1]; exact run_enterLoop_outer _ _ _ _ _
  · simp [resolve, go_sem]
  · intro f' hf'; simp [Target.leads] at hf'; subst hf'; exact hFg
  · simp [invoke, go_sem, eg]
  · refine (hseq (W0.heap.size + 1) (HApAt w fn (.func (.func g) #[] lb) w.heap.size (W0.heap.size + 1) W0.heap.size) W1 hb1 (Hap_abides _ _ _ _ _ _ _ hb1.size)
      (fun pre x W hJ hl => HapYield F (n - 1 - 1) w fn hfn _ w.heap.size (W0.heap.size + 1) W0.heap.size (by omega) (by omega) (by omega) (Nat.le_refl _) (by omega) N hN hNb pre x W hJ hl) hM).mono ?_
    rintro e W2 ⟨⟨v0, rfl⟩, ss, hS, h2⟩
    obtain ⟨v, hv, hrow, hnil⟩ := h2.box
    have hend := run_endLoop (P := Tryz.prog) h2.L (by simp [HapRec])
    obtain ⟨W3, hW3⟩ : ∃ W3, W2.putObj (W0.heap.size + 1) (.loop { HapRec fn (.func (.func g) #[] lb) w.heap.size W0.heap.size .ready none with state := .exhausted }) = W3 := ⟨_, rfl⟩
    rw [hW3] at hend
    have hg3 : W2.grownBy W3 (some (W0.heap.size + 1)) := by rw [← hW3]; exact grownBy_putObj_a _ _ _
    have hv3 : W3.heap[w.heap.size]? = some (.cells #[v] 26 (0, 0)) := by rw [← hW3]; exact (World.putObj_heap_other (by omega)).trans hv
    have hK3 : W3.heap[W0.heap.size]? = some (.deferred (some [])) := by rw [← hW3]; exact (World.putObj_heap_other (by omega)).trans h2.K
    have hrow3 := hrow.kept hg3 (ownsRow_ne_a hrow h2.L (fun cur e => by first | cases e | exact hne (Obj.cells.inj e).2.1))
    have hb3 : Below w.heap.size w W3 := h2.below.grown hg3 h2.below.size (fun k e => by cases e; omega)
    obtain ⟨hc3, hf3⟩ := cell_of_box_a hv3
    clear hW3
    refine ⟨none, W3, hend, ?_⟩
    gi_wp2
    rw [← hs0]
    refine ⟨by simp, .inl ⟨_, _, rfl, run_takeDeferred hK3, ?_⟩⟩
    exact ⟨_, results_tmp rfl _ _ _, v, ss, rfl, hS, hrow3.kept (grownBy_putObj_a _ _ _) (ownsRow_ne_a hrow3 hK3 (fun cur e => by first | cases e | exact hne (Obj.cells.inj e).2.1)), hnil, hb3.grown (grownBy_putObj_a _ _ _) hb3.size (fun k e => by cases e; omega)⟩


set_option maxHeartbeats 1000000 in
/-- **slices.Collect(seq), AGAINST WHATEVER ITERATOR VALUE.** -/
theorem Hcollect_in (F : Fence) (n : Nat) (h8 : F.fn 185) (h11 : F.fn 278) (hro : F.round = none) (hn : 3 ≤ n) (g : Nat) (lb : Array Value) (hFg : F.fn g) (eg : ∀ args w, (callFunc g args).run Tryz.prog w = .ok (.enter g args) w)
    (S : List HostV → Prop) (N : Nat) (hN : N ≤ maxLen) (hNb : N * 80 ≤ 140737488355328) (w : World) (hseq : SeqGives F (n - 1 - 1) Tryz.prog g lb HostV.val S N w) :
    CallsIn F n Tryz.prog 185 #[.func (.func g) #[] lb] w fun e w' => ∃ (v : Value) (ss : List HostV), e = .returned v ∧ S ss ∧ w'.ownsRow w.heap.size 69 5 v ss.length (flatH ss) ∧ (v = .slice none 0 0 ↔ ss = []) ∧ Below w.heap.size w w' := by
  have h1 : 1 ≤ n := by omega
  have e11 : ∀ args w, (callFunc 278 args).run Tryz.prog w = .ok (.enter 278 args) w := call278
  have mixed : Tryz.prog.follows .mixedOrders = true := follows_mixed
  have FG := Tryz.func185
  refine callsIn_of_wp FG rfl h8 ?_ hro
  simp only [Tryz.ntmps185, List.size_toArray, List.length_cons, List.length_nil, Nat.reduceAdd, Nat.reduceSub, Array.replicate_succ, Array.replicate_zero, List.push_toArray, List.append_toArray, List.nil_append, List.cons_append]
  gi_wp2_with (gi_at_fn 278; refine (HappendSeq_in F (n - 1) h11 hro (by omega) g lb hFg eg S N hN hNb _ hseq).mono ?_; rintro e w' ⟨v, ss, rfl, hS, hrow, hnil, hb⟩)
  go_ret
  exact ⟨v, ss, rfl, hS, hrow, hnil, hb⟩

end Go.Exe
namespace Go.Exe
open Go Go.Proofs Go.Maps Go.MapKept Go.RowKit Go.Sort Go.Shelf

/-! ### cmp.Compare of strings -/
def cmpS (x y : List UInt8) : Int := if x < y then -1 else if y < x then 1 else 0
def cmpH (a b : HostV) : Int := cmpS a.name b.name
theorem ltOf_cmpH (a b : HostV) : ltOf cmpH a b = decide (a.name < b.name) := by
  unfold ltOf cmpH cmpS
  by_cases h : a.name < b.name
  · simp [h]
  · by_cases h2 : b.name < a.name <;> simp [h, h2]
theorem swo_cmpH : SWO (ltOf cmpH) := by
  refine ⟨fun x => ?_, fun x y z h1 h2 => ?_, fun x y z h1 h2 => ?_⟩ <;> simp only [ltOf_cmpH, decide_eq_true_eq, decide_eq_false_iff_not] at *
  · exact List.lt_irrefl _
  · exact List.lt_trans h1 h2
  · exact List.not_lt.2 (List.le_trans (List.not_lt.1 h2) (List.not_lt.1 h1))

theorem fs188 : fsF 188 = some Tryz.f188 := by kernel_rfl
theorem fs122 : fsF 122 = some Tryz.f122 := by kernel_rfl
theorem fs121 : fsF 121 = some Tryz.f121 := by kernel_rfl
theorem fs119 : fsF 119 = some Tryz.f119 := by kernel_rfl
theorem fs185 : fsF 185 = some Tryz.f185 := by kernel_rfl
theorem fs186 : fsF 186 = some Tryz.f186 := by kernel_rfl
theorem fs187 : fsF 187 = some Tryz.f187 := by kernel_rfl
theorem call188 (xs : Array Value) (w : World) : (callFunc 188 xs).run Tryz.prog w = .ok (.enter 188 xs) w := by
  have hb : ∃ c, Tryz.f188.body = some c := ⟨_, rfl⟩
  obtain ⟨c, hb⟩ := hb
  exact callFunc_body fs188 hb xs w
theorem call122 (xs : Array Value) (w : World) : (callFunc 122 xs).run Tryz.prog w = .ok (.enter 122 xs) w := by
  have hb : ∃ c, Tryz.f122.body = some c := ⟨_, rfl⟩
  obtain ⟨c, hb⟩ := hb
  exact callFunc_body fs122 hb xs w
theorem call121 (xs : Array Value) (w : World) : (callFunc 121 xs).run Tryz.prog w = .ok (.enter 121 xs) w := by
  have hb : ∃ c, Tryz.f121.body = some c := ⟨_, rfl⟩
  obtain ⟨c, hb⟩ := hb
  exact callFunc_body fs121 hb xs w
theorem call119 (xs : Array Value) (w : World) : (callFunc 119 xs).run Tryz.prog w = .ok (.enter 119 xs) w := by
  have hb : ∃ c, Tryz.f119.body = some c := ⟨_, rfl⟩
  obtain ⟨c, hb⟩ := hb
  exact callFunc_body fs119 hb xs w
theorem call185 (xs : Array Value) (w : World) : (callFunc 185 xs).run Tryz.prog w = .ok (.enter 185 xs) w := by
  have hb : ∃ c, Tryz.f185.body = some c := ⟨_, rfl⟩
  obtain ⟨c, hb⟩ := hb
  exact callFunc_body fs185 hb xs w
theorem call186 (xs : Array Value) (w : World) : (callFunc 186 xs).run Tryz.prog w = .ok (.enter 186 xs) w := by
  have hb : ∃ c, Tryz.f186.body = some c := ⟨_, rfl⟩
  obtain ⟨c, hb⟩ := hb
  exact callFunc_body fs186 hb xs w
theorem call187 (xs : Array Value) (w : World) : (callFunc 187 xs).run Tryz.prog w = .ok (.enter 187 xs) w := by
  have hb : ∃ c, Tryz.f187.body = some c := ⟨_, rfl⟩
  obtain ⟨c, hb⟩ := hb
  exact callFunc_body fs187 hb xs w

set_option maxHeartbeats 1000000 in
set_option maxRecDepth 100000 in
theorem nan188 (x : ByteArray) (w : World) : Calls Tryz.prog 188 #[.string x] w fun e w' => e = .returned (.bool false) ∧ w' = w := by
  go_enter Tryz.func188, Tryz.ntmps188
  go_wp2
  go_ret
  exact ⟨by simp, rfl⟩

set_option maxHeartbeats 1000000 in
set_option maxRecDepth 100000 in
theorem compare122 (x y : List UInt8) (w : World) : Calls Tryz.prog 122 #[encStr x, encStr y] w fun e w' => e = .returned (.int .i64 (cmpS x y)) ∧ w' = w := by
  have e188 := call188
  have l1 : Op.bytesLess x y = decide (x < y) := bytesLess_eq x y
  have q1 : (x == y) = decide (x = y) := by rw [Bool.eq_iff_iff]; simp
  unfold cmpS
  by_cases h1 : x < y
  · rw [if_pos h1]
    have d1 : decide (x < y) = true := decide_eq_true h1
    rw [d1] at l1
    go_enter Tryz.func122, Tryz.ntmps122
    go_wp2_with (go_at_fn 188; refine (nan188 _ _).mono ?_; rintro e w' ⟨rfl, rfl⟩)
    go_ret
    exact ⟨rfl, rfl⟩
  · rw [if_neg h1]
    have d1 : decide (x < y) = false := decide_eq_false h1
    rw [d1] at l1
    by_cases h2 : y < x
    · rw [if_pos h2]
      have d2 : decide (x = y) = false := decide_eq_false (fun h => by rw [h] at h2; exact List.lt_irrefl _ h2)
      rw [d2] at q1
      have hxy : ¬ x = y := of_decide_eq_false d2
      go_enter Tryz.func122, Tryz.ntmps122
      go_wp2_with (go_at_fn 188; refine (nan188 _ _).mono ?_; rintro e w' ⟨rfl, rfl⟩)
      go_ret
      exact ⟨rfl, rfl⟩
    · rw [if_neg h2]
      have hxy : x = y := List.le_antisymm (List.not_lt.1 h2) (List.not_lt.1 h1)
      subst hxy
      clear q1
      go_enter Tryz.func122, Tryz.ntmps122
      go_wp2_with (go_at_fn 188; refine (nan188 _ _).mono ?_; rintro e w' ⟨rfl, rfl⟩)
      go_ret
      exact ⟨rfl, rfl⟩

set_option maxHeartbeats 1000000 in
set_option maxRecDepth 100000 in
theorem cmp121 (a b : HostV) (w : World) : Calls Tryz.prog 121 #[.agg a.cells.toArray, .agg b.cells.toArray] w fun e w' => e = .returned (.int .i64 (cmpH a b)) ∧ ∃ os, w' = grow w os := by
  have e122 := call122
  show Calls Tryz.prog 121 #[.agg #[.string ⟨a.name.toArray⟩, .string ⟨a.dc.toArray⟩, .string ⟨a.rack.toArray⟩, .slice a.ad a.n a.c, .bool a.up], .agg #[.string ⟨b.name.toArray⟩, .string ⟨b.dc.toArray⟩, .string ⟨b.rack.toArray⟩, .slice b.ad b.n b.c, .bool b.up]] w _
  go_enter Tryz.func121, Tryz.ntmps121
  go_wp2_with (go_at_fn 122; refine (compare122 a.name b.name _).mono ?_; rintro e w' ⟨rfl, rfl⟩)
  go_ret
  exact ⟨rfl, _, by rw [alloc_eq_grow, alloc_eq_grow, grow_grow]⟩

end Go.Exe
namespace Go.Exe
open Go Go.Proofs Go.Maps Go.MapKept Go.RowKit Go.Sort Go.Shelf

theorem flatMap_get {α : Type} {enc : α → List Value} {k : Nat} (hk : ∀ x, (enc x).length = k) (h0 : 0 < k) : ∀ (l : List α) (t : Nat), (l.flatMap enc)[t]? = (l[t / k]?).bind fun x => (enc x)[t % k]?
  | [], t => by simp
  | x :: l, t => by
    rw [List.flatMap_cons]
    by_cases ht : t < k
    · rw [List.getElem?_append_left (by rw [hk]; exact ht), Nat.div_eq_of_lt ht, Nat.mod_eq_of_lt ht]
      rfl
    · obtain ⟨u, rfl⟩ : ∃ u, t = u + k := ⟨t - k, by omega⟩
      rw [List.getElem?_append_right (by rw [hk]; omega), hk, Nat.add_sub_cancel, flatMap_get hk h0 l u, Nat.add_div_right _ h0, Nat.add_mod_right]
      rfl
theorem flatK_eq (d : Array HostV) : (flatK HostV.cells 5 d).toList = flatH d.toList := by
  apply List.ext_getElem?
  intro t
  unfold flatH
  rw [flatMap_get HostV.cells_len (by decide)]
  by_cases ht : t < d.size * 5
  · have h1 : t / 5 < d.size := by omega
    have h2 : t % 5 < (d[t / 5]).cells.length := by rw [HostV.cells_len]; omega
    rw [Array.getElem?_toList]
    simp only [flatK, Array.getElem?_map, Array.getElem?_range, ht, if_true, Option.map_some, Array.getElem?_toList, Array.getElem?_eq_getElem h1, Option.bind_some]
    rw [getElem!_pos d (t / 5) h1, List.getElem?_eq_getElem h2, getElem!_pos _ (t % 5) h2]
  · have h1 : ¬ t / 5 < d.size := by omega
    rw [List.getElem?_eq_none (by simp; omega), List.getElem?_eq_none (by simp; omega)]
    rfl

theorem heap_sorted_id {w : World} {g n : Nat} {os : Array Obj} {cur : Array Value} {e : TypeId} {fr : Nat × Nat} (d : Array Value) (hb : w.heap[g]? = some (.cells cur e fr)) :
    (grow (putRow id (Sort.ahead w n) g 0 d) os).heap[g]? = some (.cells (putCells id 0 d cur) e fr) := by
  have hg : g < w.heap.size := (Array.getElem?_eq_some_iff.1 hb).1
  rw [heap_grow_old _ _ (by simpa using hg)]
  simp [putRow, mapBlock, Sort.ahead, Array.getElem?_modify, hb, onCells]
theorem grownBy_sorted_id {w : World} {g n : Nat} {os : Array Obj} (d : Array Value) : w.grownBy (grow (putRow id (Sort.ahead w n) g 0 d) os) (some g) := by
  refine ⟨rfl, rfl, rfl, by simp, fun k hk hne => ?_⟩
  rw [heap_grow_old _ _ (by simpa using hk)]
  have : g ≠ k := fun e => hne (by rw [e])
  simp [putRow, mapBlock, Sort.ahead, Array.getElem?_modify, this]
theorem take_putCells_id (cur d : Array Value) (h : d.size ≤ cur.size) : (putCells id 0 d cur).toList.take d.size = d.toList := by
  apply List.ext_getElem?
  intro j
  by_cases hj : j < d.size
  · rw [List.getElem?_take_of_lt hj, Array.getElem?_toList]
    simp [putCells, hj, show j < cur.size by omega]
  · rw [List.getElem?_take_eq_none (by omega), List.getElem?_eq_none (by simp; omega)]
theorem flatH_length (l : List HostV) : (flatH l).length = l.length * 5 := by
  unfold flatH
  induction l with
  | nil => rfl
  | cons x l ih => rw [List.flatMap_cons, List.length_append, ih, HostV.cells_len, List.length_cons]; omega

theorem cmpLays121 (blk off size : Nat) (w : World) : CmpLays Tryz.prog 121 #[] HostV.cells 5 cmpH blk off size w := fun _ _ _ _ x y =>
  (cmp121 x y _).mono fun _ _ ⟨he, os', hw⟩ => ⟨he, 0, os', hw⟩

set_option maxHeartbeats 2000000 in
set_option maxRecDepth 100000 in
theorem sorted119 {Bm b c : Nat} {arr : Array MapEntry} {w : World} {hs : List HostV} (hBm : Bm < w.heap.size) (hm : w.cell? ⟨Bm, 0, none⟩ = some (.map (some b))) (hb : w.heap[b]? = some (.map arr c)) (hst : Stamped arr c) (hsz : arr.size ≤ 65536)
    (hne : hs ≠ []) (hkv : arr.toList.map (fun m => (m.key, m.val)) = hs.map fun h => (encStr h.name, h.val)) (hwf : ∀ n ∈ hs, n.name.length ≤ 65536) (hnd : (hs.map (·.name)).Nodup) :
    Calls Tryz.prog 119 #[.func (.func 187) #[] #[.pointer (some ⟨Bm, 0, none⟩)], .func (.func 121) #[] #[]] w fun e w' => ∃ (v : Value) (ds : List HostV), e = .returned v ∧ ds.Perm hs ∧ ds.Pairwise (fun a b => a.name ≤ b.name) ∧
      w'.ownsRow w.heap.size 69 5 v hs.length (flatH ds) ∧ Below w.heap.size w w' := by
  have hk9 : Tryz.prog.underlying 9 = some .string := Tryz.underlying9
  have hmax : (65536 : Nat) ≤ maxLen := by unfold maxLen; decide
  obtain ⟨D0, hown, hperm, hsize, hat0⟩ := own_host hk9 hb hst (Nat.le_trans hsz hmax) hkv (fun n hn => Nat.le_trans (hwf n hn) hmax)
  have hseq := values_gives Fence.wide 2 trivial rfl (by omega) Bm b arr.size D0 hs hnd hperm hat0 w hBm hm hown
  have hcol := callsIn_wide.1 (Hcollect_in Fence.wide 4 trivial trivial rfl (by omega) 187 #[.pointer (some ⟨Bm, 0, none⟩)] trivial call187 _ _ (by rw [hsize]; exact Nat.le_trans hsz hmax) (by rw [hsize]; omega) w hseq)
  have e185 := call185
  have e186 := call186
  go_enter Tryz.func119, Tryz.ntmps119
  go_wp2_with (go_at_fn 185; refine hcol.mono ?_; rintro e W ⟨v, ss, rfl, hS, hrow, hnil, hbl⟩)
  rcases hrow.2 with ⟨rfl, hz⟩ | ⟨gb, cap, cur, rfl, hbase, hgb, r1, r2, r3, r4⟩
  · exfalso
    have hss : ss = [] := List.eq_nil_of_length_eq_zero hz
    rw [hss] at hS
    exact hne (List.Perm.nil_eq hS).symm
  · have hlen : ss.length = hs.length := hS.length_eq
    have hal : arr.size = hs.length := by
      have := congrArg List.length hkv
      simpa using this
    have hfl : (flatK HostV.cells 5 ss.toArray).toList = flatH ss := flatK_eq _
    have hH : HoldsK HostV.cells 5 W gb 0 ss.toArray := by
      intro j hj
      have hj5 : j < ss.length * 5 := by simpa using hj
      refine ⟨?_, by simp [World.frozen?, hgb]⟩
      have h1 : (flatK HostV.cells 5 ss.toArray)[j]? = cur[j]? := by
        rw [← Array.getElem?_toList, hfl, ← r4, List.getElem?_take_of_lt hj5, Array.getElem?_toList]
      simp only [World.cell?, hgb, Nat.zero_add, Option.isSome_none, Bool.false_eq_true, if_false]
      rw [← h1, Array.getElem?_eq_getElem hj, getElem!_pos _ j hj]
      rfl
    have hgl : gb < W.heap.size := (Array.getElem?_eq_some_iff.1 hgb).1
    have cS := AnyQ.slices_SortFunc sortFH 5 (fun w => by kernel_rfl) (fun w => by kernel_rfl) HostV.cells HostV.cells_len HostV.cells_one cmpH swo_cmpH 121 #[] gb 0 cap ss.toArray W call121 (cmpLays121 _ _ _ _) hH hgl (by simp; omega)
    rw [List.size_toArray] at cS
    go_wp2_with (go_at_fn 186; refine cS.mono ?_; rintro e w' ⟨rfl, d', nn, os, hP, hSo, rfl⟩)
    go_ret
    have hP' : PermIn 0 ss.toArray.size ss.toArray d' := by rw [List.size_toArray]; exact hP
    obtain ⟨hs1, hs2⟩ := perm_whole hP'
    have hs1 : d'.size = ss.length := by simpa using hs1
    have hfd : (flatK HostV.cells 5 d').toList = flatH d'.toList := flatK_eq _
    refine ⟨_, d'.toList, rfl, hs2.trans hS, ?_, ?_, ?_⟩
    · rw [List.pairwise_iff_getElem]
      intro i j hi hj hij
      have hi' : i < d'.size := by simpa using hi
      have hj' : j < d'.size := by simpa using hj
      have h := hSo i j (Nat.zero_le _) hij (by omega)
      rw [ltOf_cmpH, getElem!_pos d' i hi', getElem!_pos d' j hj'] at h
      simp only [decide_eq_false_iff_not] at h
      have h := List.not_lt.1 h
      simpa using h
    · rw [← hlen, ← hfd]
      refine ⟨by simp [hs1], .inr ⟨gb, cap, _, rfl, hbase, heap_sorted_id _ hgb, r1, r2, by simp [putCells, r3], ?_⟩⟩
      have := take_putCells_id cur (flatK HostV.cells 5 d') (by rw [size_flatK, hs1]; omega)
      rw [size_flatK, hs1] at this
      exact this
    · exact hbl.grown (grownBy_sorted_id _) hbl.size (fun j hj => by cases hj; exact hbase)

end Go.Exe
namespace Go.Exe
open Go Go.Proofs Go.Maps Go.MapKept Go.RowKit Go.Sort Go.Shelf

abbrev ZH := (List Nat × List SV) × HostV
noncomputable def insP (x : ZH) : List ZH → List ZH
  | [] => [x]
  | y :: l => match ltL x.1.1 y.1.1 with
    | true => x :: y :: l
    | false => y :: insP x l
noncomputable def isortP : List ZH → List ZH
  | [] => []
  | x :: l => insP x (isortP l)
theorem insP_fst (x : ZH) : ∀ l : List ZH, (insP x l).map Prod.fst = insH x.1 (l.map Prod.fst)
  | [] => rfl
  | y :: l => by
    rw [List.map_cons]
    unfold insP insH
    cases ltL x.1.1 y.1.1 with
    | true => rfl
    | false =>
      dsimp only
      rw [List.map_cons, insP_fst x l]
theorem isortP_fst : ∀ l : List ZH, (isortP l).map Prod.fst = isortH (l.map Prod.fst)
  | [] => rfl
  | x :: l => by
    show (insP x (isortP l)).map Prod.fst = insH x.1 (isortH (l.map Prod.fst))
    rw [insP_fst, isortP_fst l]
theorem insP_perm (x : ZH) : ∀ l : List ZH, (insP x l).Perm (x :: l)
  | [] => .refl _
  | y :: l => by
    unfold insP
    cases ltL x.1.1 y.1.1 with
    | true => exact .refl _
    | false => exact ((insP_perm x l).cons y).trans (.swap _ _ _)
theorem isortP_perm : ∀ l : List ZH, (isortP l).Perm l
  | [] => .refl _
  | x :: l => (insP_perm x _).trans ((isortP_perm l).cons x)

theorem risesH_pairwise : ∀ {l : List (List Nat × List SV)}, (∀ x ∈ l, ∀ b ∈ x.1, b < 256) → risesH l = true → (l.map fun x => toU x.1).Pairwise (· < ·)
  | [], _, _ => .nil
  | [x], _, _ => by simp
  | x :: y :: l, hl, h => by
    unfold risesH at h
    simp only [Bool.and_eq_true] at h
    have h1 := (ltL_lt (hl x (by simp)) (hl y (by simp))).1 h.1
    have h2 := risesH_pairwise (fun z hz => hl z (List.mem_cons_of_mem _ hz)) h.2
    rw [List.map_cons]
    refine List.pairwise_cons.2 ⟨fun z hz => ?_, h2⟩
    rw [List.map_cons] at hz h2
    rcases List.mem_cons.1 hz with rfl | hz
    · exact h1
    · exact List.lt_trans h1 ((List.pairwise_cons.1 h2).1 z hz)

theorem host_uniq {hs : List HostV} (hnd : (hs.map (·.name)).Nodup) {d c : HostV} (hd : d ∈ hs) (hc : c ∈ hs) (e : d.name = c.name) : d = c := by
  obtain ⟨i, hi⟩ := List.mem_iff_getElem?.1 hd
  obtain ⟨j, hj⟩ := List.mem_iff_getElem?.1 hc
  have h2 : (hs.map (·.name))[i]? = some c.name := by rw [List.getElem?_map, hi]; simpa using e
  have h3 : (hs.map (·.name))[j]? = some c.name := by rw [List.getElem?_map, hj]; rfl
  have hij : i = j := by
    have hi' := (List.getElem?_eq_some_iff.1 h2).1
    exact (List.getElem?_inj hi' hnd).1 (h2.trans h3.symm)
  subst hij
  rw [hi] at hj
  cases hj
  rfl

theorem namesOf_ok {ρ : Ren} : ∀ {es : List (SV × SV × Nat)} {ms : List MapEntry} {hs : List (List Nat × List SV)}, namesOf es = some hs → ERL ρ es ms →
    ∃ zs : List ZH, zs.map Prod.fst = hs ∧ ms.map (fun m => (m.key, m.val)) = zs.map (fun z => (encStr z.2.name, z.2.val)) ∧
      (∀ z ∈ zs, z.2.name = toU z.1.1 ∧ (∀ b ∈ z.1.1, b < 256) ∧ z.1.1.length ≤ 65536 ∧ VRL ρ (.str z.1.1 :: z.1.2) z.2.cells) ∧ ms.map (·.born) = es.map (·.2.2)
  | [], ms, hs, h, he => by
    rw [show ms = [] from he]
    cases h
    exact ⟨[], rfl, rfl, by simp, rfl⟩
  | e :: es, ms, hs, h, he => by
    obtain ⟨m, ms, rfl, h1, h2, h3, h4⟩ := he
    unfold namesOf at h
    split at h
    · rename_i k a b c d u hk hag
      split at h
      · rename_i n hn
        split at h
        · rename_i hcond
          simp only [Bool.and_eq_true] at hcond
          obtain ⟨w1, w2, w3, w4, w5, w6⟩ := hcond
          have w1 := (eqL_iff _ _).1 w1
          subst w1
          have w2 := Nat.le_of_ble_eq_true w2
          rw [lenL_eq] at w2
          split at h
          · rename_i r hr
            cases h
            obtain ⟨zs, q1, q2, q3, q4⟩ := namesOf_ok hr h4
            rw [asStr_iff.1 hk, VR.str_iff] at h1
            rw [asAgg_iff.1 hag, VR.agg_iff] at h2
            obtain ⟨xs, hv, hx, _⟩ := h2
            obtain ⟨va, xs, rfl, ra, hx⟩ := VRL.cons_iff.1 hx
            obtain ⟨vb, xs, rfl, rb, hx⟩ := VRL.cons_iff.1 hx
            obtain ⟨vc, vd, vu, rfl, rc, rd, ru⟩ := hx.three
            have ra0 := ra
            rw [asStr_iff.1 hn, VR.str_iff] at ra
            obtain ⟨lb, hlb⟩ : ∃ lb, b = .str lb := by
              unfold isStrS at w3
              split at w3
              · rename_i l hl; exact ⟨l, asStr_iff.1 hl⟩
              · cases w3
            obtain ⟨lc, hlc⟩ : ∃ lc, c = .str lc := by
              unfold isStrS at w4
              split at w4
              · rename_i l hl; exact ⟨l, asStr_iff.1 hl⟩
              · cases w4
            obtain ⟨bu, hbu⟩ : ∃ bu, u = .bool bu := by
              unfold isBoS at w6
              split at w6
              · rename_i l hl; exact ⟨l, asBool_iff.1 hl⟩
              · cases w6
            obtain ⟨ad, dn, dc, hd⟩ : ∃ ad dn dc, vd = .slice ad dn dc := by
              unfold isSlS at w5
              split at w5
              · rename_i p hp
                rcases asSl_iff.1 hp with ⟨_, e1⟩ | ⟨_, e1⟩
                · rw [e1, VR.sl_iff] at rd
                  obtain ⟨_, _, e2⟩ := rd
                  exact ⟨_, _, _, e2⟩
                · rw [e1, VR.sx_iff] at rd
                  obtain ⟨_, _, _, _, e2, _⟩ := rd
                  exact ⟨_, _, _, e2⟩
              · rw [isNils_iff.1 w5, VR.nils_iff] at rd
                exact ⟨_, _, _, rd⟩
            subst hlb hlc hbu hd
            have rb0 := VR.str_iff.1 rb
            have rc0 := VR.str_iff.1 rc
            have ru0 := VR.bool_iff.1 ru
            have ea : va = encStr (toU k) := ra.1
            have eb : vb = encStr (toU lb) := rb0.1
            have ec : vc = encStr (toU lc) := rc0.1
            refine ⟨((k, [.str lb, .str lc, d, .bool bu]), ⟨toU k, toU lb, toU lc, ad, dn, dc, bu⟩) :: zs, by rw [List.map_cons, q1], ?_, ?_, by simp [h3, q4]⟩
            · rw [List.map_cons, List.map_cons, q2, hv, h1.1, ea, eb, ec, ru0]
              rfl
            · intro z hz
              rcases List.mem_cons.1 hz with rfl | hz
              · refine ⟨rfl, ra.2, w2, ?_⟩
                rw [asStr_iff.1 hn] at ra0
                rw [ea] at ra0
                rw [eb] at rb
                rw [ec] at rc
                rw [ru0] at ru
                exact .cons ra0 (.cons rb (.cons rc (.cons rd (.cons ru .nil))))
              · exact q3 z hz
          · cases h
        · cases h
      · cases h
    · cases h

theorem mkHosts_ok {ρ : Ren} : ∀ {zs : List ZH}, (∀ z ∈ zs, VRL ρ (.str z.1.1 :: z.1.2) z.2.cells) → VRL ρ (mkHosts (zs.map Prod.fst)) (flatH (zs.map Prod.snd))
  | [], _ => .nil
  | z :: zs, h => by
    have h1 := h z (by simp)
    have h2 := mkHosts_ok (fun y hy => h y (List.mem_cons_of_mem _ hy))
    show VRL ρ (.str z.1.1 :: (z.1.2 ++ mkHosts (zs.map Prod.fst))) (z.2.cells ++ flatH (zs.map Prod.snd))
    exact h1.append h2
theorem lenH_eq (l : List (List Nat × List SV)) : lenH l = l.length := by
  induction l with
  | nil => rfl
  | cons x l ih => show Nat.succ (lenH l) = _; rw [ih]; rfl

theorem prim119 (K : CallF) : CallOk Tryz.prog 119 (sortedHP 187 121 69 K) := by
  intro args s v s' h C ρ xs w hargs hok
  refine .inr ⟨call119 xs w, ?_⟩
  unfold sortedHP at h
  split at h
  rotate_left
  · cases h
  rename_i x y
  obtain ⟨u, u2, e1, r1, r2⟩ := hargs.two
  have e2 : xs = #[u, u2] := Array.ext' e1
  subst e2
  split at h
  · cases h
  rename_i hfn
  have hu2 := isFn_ok hfn r2
  subst hu2
  split at h
  rotate_left
  · cases h
  rename_i es c hseq
  obtain ⟨Bm, b, arr, rfl, hBm, hm, hb, hms⟩ := seqM_ok hok hseq r1
  split at h
  rotate_left
  · cases h
  rename_i hs0 hns
  obtain ⟨zs, q1, q2, q3, q4⟩ := namesOf_ok hns hms
  dsimp only at h
  split at h
  rotate_left
  · cases h
  rename_i hcond
  simp only [Bool.and_eq_true] at hcond
  obtain ⟨c1, c2, c3⟩ := hcond
  have c3 := Nat.le_of_ble_eq_true c3
  obtain ⟨b1, b2⟩ := bornsUp_ok c2
  have hfst : (isortP zs).map Prod.fst = isortH hs0 := by rw [isortP_fst, q1]
  have hpz := isortP_perm zs
  have hrl : (isortH hs0).length = zs.length := by rw [← hfst, List.length_map, hpz.length_eq]
  rw [lenH_eq, hrl] at c3
  have hrise : ((isortP zs).map fun z => z.2.name).Pairwise (· < ·) := by
    have h1 := risesH_pairwise (l := isortH hs0) (fun x hx => by
      rw [← hfst] at hx
      obtain ⟨z, hz, rfl⟩ := List.mem_map.1 hx
      exact (q3 z (hpz.mem_iff.1 hz)).2.1) c1
    rw [← hfst, List.map_map] at h1
    have h2 : (isortP zs).map (fun z => z.2.name) = (isortP zs).map ((fun x => toU x.1) ∘ Prod.fst) := List.map_congr_left fun z hz => (q3 z (hpz.mem_iff.1 hz)).1
    rw [h2]
    exact h1
  have hnd : ((zs.map Prod.snd).map (·.name)).Nodup := by
    rw [List.map_map]
    refine ((hpz.map ((fun h => h.name) ∘ Prod.snd)).nodup_iff).1 ?_
    exact hrise.imp fun hh e => by rw [e] at hh; exact List.lt_irrefl _ hh
  have hkv : arr.toList.map (fun m => (m.key, m.val)) = (zs.map Prod.snd).map fun h => (encStr h.name, h.val) := by rw [q2, List.map_map]; rfl
  have hlen : arr.size = zs.length := by
    have := congrArg List.length q2
    simpa using this
  have hkeys : arr.toList.map (·.key) = (zs.map Prod.snd).map fun h => encStr h.name := by
    have := congrArg (List.map Prod.fst) hkv
    rw [List.map_map, List.map_map] at this
    exact this
  have hst : Stamped arr c := by
    refine ⟨fun m hm' => ?_, ?_, ?_⟩
    · have h1 : m.born ∈ arr.toList.map (·.born) := List.mem_map.2 ⟨m, hm', rfl⟩
      rw [q4] at h1
      obtain ⟨e, he, h2⟩ := List.mem_map.1 h1
      rw [← h2]
      exact b1 e he
    · rw [q4]
      exact b2.imp fun hh => Nat.ne_of_lt hh
    · rw [hkeys]
      have h1 : ((zs.map Prod.snd).map (·.name)).Pairwise (· ≠ ·) := hnd
      rw [List.pairwise_map] at h1
      exact List.pairwise_map.2 (h1.imp fun hne e => hne (encStr_inj e))
  split at h
  · cases h
  · rename_i hr0
    have hz0 : zs ≠ [] := fun hh => hr0 (by rw [← hfst, hh]; rfl)
    refine (sorted119 hBm hm hb hst (by omega) (by simpa using hz0) hkv (fun n hn => by obtain ⟨z, hz, rfl⟩ := List.mem_map.1 hn; rw [(q3 z hz).1]; simpa [toU] using (q3 z hz).2.2.1) hnd).mono ?_
    rintro e w' ⟨v', ds, rfl, hpd, hsd, hrow, hbl⟩
    have hds : ds = (isortP zs).map Prod.snd := by
      refine List.Perm.eq_of_pairwise (le := fun a b => a.name ≤ b.name) (fun a b ha hb' h1 h2 => ?_) hsd ?_ (hpd.trans (hpz.map Prod.snd).symm)
      · exact host_uniq hnd (hpd.mem_iff.1 ha) ((hpz.map Prod.snd).mem_iff.1 hb') (List.le_antisymm h1 h2)
      · rw [List.pairwise_map]
        rw [List.pairwise_map] at hrise
        exact hrise.imp fun hh => List.le_of_lt hh
    subst hds
    have hok' := hok.below hbl
    obtain ⟨hn, rfl, rfl⟩ := new_ok h
    obtain ⟨hl1, ⟨rfl, h0⟩ | ⟨g, cap, cur, rfl, hg, hgo, hnc, _, hcs, htake⟩⟩ := hrow
    · exact absurd (by simpa using h0) hz0
    have hvr : ∀ ρ' : Ren, ρ.le ρ' → VRL ρ' (mkHosts (isortH hs0)) (flatH ((isortP zs).map Prod.snd)) := fun ρ' hle => by
      rw [← hfst]
      exact mkHosts_ok fun z hz => VRL.mono hle _ _ (q3 z (hpz.mem_iff.1 hz)).2.2.2
    have hml : (mkHosts (isortH hs0)).length = zs.length * 5 := by
      have := (hvr ρ (Ren.le_refl _)).length
      rw [← this, flatH_length, List.length_map, hpz.length_eq]
    have hzl : (zs.map Prod.snd).length = zs.length := by simp
    rw [hzl] at hnc htake
    have hadopt := hok'.adopt (p := ⟨g, 0, cur.size⟩) (x := .cells (Nat.mul 2 69) (mkHosts (isortH hs0))) (o := .cells cur 69 (0, 0)) hn rfl rfl rfl (fun b o _ hbo => hbo) hgo
      (fun i q hq hi => by have := hok.blk_lt hq hi; show q.blk ≠ g; omega)
      (fun k o hF => by
        have h1 := (hok.far k o hF).1
        have := (Array.getElem?_eq_some_iff.1 h1).1
        show k ≠ g
        omega)
      (by
        refine ⟨cur, rfl, Nat.le_refl _, ?_, ?_, ?_, fun hodd => absurd hodd (by decide)⟩
        · show 0 + _ ≤ cur.size
          rw [hml]
          omega
        · show VRL _ _ ((cur.toList.drop 0).take _)
          rw [List.drop_zero, hml, htake]
          exact hvr _ (hok.up _)
        · show ∀ y ∈ (cur.toList.drop 0).take _, _
          rw [List.drop_zero, hml, htake]
          intro y hy
          unfold flatH at hy
          obtain ⟨z, _, hz⟩ := List.mem_flatMap.1 hy
          exact z.cells_one y hz) rfl
    refine ⟨_, _, rfl, Ext.alloc hok hn _ _, ?_, hadopt⟩
    rw [lenH_eq, hrl]
    exact VR.sx_iff.2 ⟨_, _, _, Ren.up_same _ _ _, by rw [hzl], .inl ⟨rfl, hnc, by simp; omega⟩⟩

end Go.Exe
