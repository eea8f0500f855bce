/- murmur.rest: what the last bytes are, block by block. -/
import Derived.Test.YtapekipfkghdhaaC
import Derived.Control
namespace Go.Proofs.Ytapekipfkghdhaa
open Go.RowKit
def xr (a b : Int) : Int := bits .xor .u64 a b
/-- The bytes with their signs, each at its place. -/
def ss : List UInt8 → Nat → List Int
  | [], _ => []
  | b :: l, j => sx b j :: ss l (j + 1)
def xd (l : List Int) : Int := l.foldr (fun s a => xr a s) 0
def kOf (l : List UInt8) : Int := if l.length = 0 then 0 else fst (xd (ss (l.take 8) 0))
def mOf (l : List UInt8) : Int := if l.length ≤ 8 then 0 else snd (xd (ss (l.drop 8) 0))
theorem at_lit {B : Nat} {A : Option Addr} {n c : Nat} {l : List UInt8} (w : World) (hl : BS w B A n c l) (i : Nat) (z : Int) (b : UInt8) (m : Nat) (hz : z = i) (hi : i < n) (h16 : i < 16) (hb : l[i]? = some b) (hm : i % 8 = m) :
    Calls Try.prog 48 #[.slice A n c, .int .i64 z] w fun e w' => e = .returned (.int .u64 (sx b m)) ∧ w = w' := by
  subst hz hm
  obtain ⟨hli, rfl⟩ := List.getElem?_eq_some_iff.1 hb
  exact at_any w hl i hi h16 hli
noncomputable def rcode : Code := (Try.f33.body).getD .skip
def bk0 : Code → Code
  | .seq _ (.seq _ (.seq (.seq _ b) _)) => b
  | c => c
def inn : Code → Code
  | .block _ (.seq c _) => c
  | c => c
def aft : Code → Code
  | .block _ (.seq _ d) => d
  | c => c
/-- The blocks, from the outermost one on. -/
noncomputable def bk : Nat → Code
  | 0 => bk0 rcode
  | k + 1 => inn (bk k)
/-- The frame while the bytes are laid over. -/
structure Fr (s : Value) (k m : Int) (a : Act) : Prop where
  d : a.defers = []
  n : a.tmps.size = 104
  f0 : a.tmps.getD 0 undef = s
  f2 : a.tmps.getD 2 undef = .int .u64 0
  f3 : a.tmps.getD 3 undef = .int .u64 0
  f4 : a.tmps.getD 4 undef = .int .u64 k
  f5 : a.tmps.getD 5 undef = .int .u64 m
theorem arr_form (arr : Array Value) (h : arr.size = 104) : arr = #[arr.getD 0 undef, arr.getD 1 undef, arr.getD 2 undef, arr.getD 3 undef, arr.getD 4 undef, arr.getD 5 undef, arr.getD 6 undef, arr.getD 7 undef, arr.getD 8 undef, arr.getD 9 undef, arr.getD 10 undef, arr.getD 11 undef, arr.getD 12 undef, arr.getD 13 undef, arr.getD 14 undef, arr.getD 15 undef, arr.getD 16 undef, arr.getD 17 undef, arr.getD 18 undef, arr.getD 19 undef, arr.getD 20 undef, arr.getD 21 undef, arr.getD 22 undef, arr.getD 23 undef, arr.getD 24 undef, arr.getD 25 undef, arr.getD 26 undef, arr.getD 27 undef, arr.getD 28 undef, arr.getD 29 undef, arr.getD 30 undef, arr.getD 31 undef, arr.getD 32 undef, arr.getD 33 undef, arr.getD 34 undef, arr.getD 35 undef, arr.getD 36 undef, arr.getD 37 undef, arr.getD 38 undef, arr.getD 39 undef, arr.getD 40 undef, arr.getD 41 undef, arr.getD 42 undef, arr.getD 43 undef, arr.getD 44 undef, arr.getD 45 undef, arr.getD 46 undef, arr.getD 47 undef, arr.getD 48 undef, arr.getD 49 undef, arr.getD 50 undef, arr.getD 51 undef, arr.getD 52 undef, arr.getD 53 undef, arr.getD 54 undef, arr.getD 55 undef, arr.getD 56 undef, arr.getD 57 undef, arr.getD 58 undef, arr.getD 59 undef, arr.getD 60 undef, arr.getD 61 undef, arr.getD 62 undef, arr.getD 63 undef, arr.getD 64 undef, arr.getD 65 undef, arr.getD 66 undef, arr.getD 67 undef, arr.getD 68 undef, arr.getD 69 undef, arr.getD 70 undef, arr.getD 71 undef, arr.getD 72 undef, arr.getD 73 undef, arr.getD 74 undef, arr.getD 75 undef, arr.getD 76 undef, arr.getD 77 undef, arr.getD 78 undef, arr.getD 79 undef, arr.getD 80 undef, arr.getD 81 undef, arr.getD 82 undef, arr.getD 83 undef, arr.getD 84 undef, arr.getD 85 undef, arr.getD 86 undef, arr.getD 87 undef, arr.getD 88 undef, arr.getD 89 undef, arr.getD 90 undef, arr.getD 91 undef, arr.getD 92 undef, arr.getD 93 undef, arr.getD 94 undef, arr.getD 95 undef, arr.getD 96 undef, arr.getD 97 undef, arr.getD 98 undef, arr.getD 99 undef, arr.getD 100 undef, arr.getD 101 undef, arr.getD 102 undef, arr.getD 103 undef] := by
  have e : arr.toList = (List.range 104).map (fun i => arr.getD i undef) := by
    apply List.ext_getElem
    · simp [h]
    · intro i h1 h2
      have h3 : i < arr.size := by simpa using h1
      simp [Array.getD, h3]
  have e2 : arr = ((List.range 104).map (fun i => arr.getD i undef)).toArray := by rw [← e]
  exact e2.trans rfl
theorem Fr.form {s : Value} {k m : Int} {a : Act} (h : Fr s k m a) : ∃ f : Nat → Value, a = { tmps := #[s, f 1, .int .u64 0, .int .u64 0, .int .u64 k, .int .u64 m, f 6, f 7, f 8, f 9, f 10, f 11, f 12, f 13, f 14, f 15, f 16, f 17, f 18, f 19, f 20, f 21, f 22, f 23, f 24, f 25, f 26, f 27, f 28, f 29, f 30, f 31, f 32, f 33, f 34, f 35, f 36, f 37, f 38, f 39, f 40, f 41, f 42, f 43, f 44, f 45, f 46, f 47, f 48, f 49, f 50, f 51, f 52, f 53, f 54, f 55, f 56, f 57, f 58, f 59, f 60, f 61, f 62, f 63, f 64, f 65, f 66, f 67, f 68, f 69, f 70, f 71, f 72, f 73, f 74, f 75, f 76, f 77, f 78, f 79, f 80, f 81, f 82, f 83, f 84, f 85, f 86, f 87, f 88, f 89, f 90, f 91, f 92, f 93, f 94, f 95, f 96, f 97, f 98, f 99, f 100, f 101, f 102, f 103], defers := [] } := by
  refine ⟨fun i => a.tmps.getD i undef, ?_⟩
  have e := arr_form a.tmps h.n
  rw [h.f0, h.f2, h.f3, h.f4, h.f5] at e
  obtain ⟨tm, de⟩ := a
  have hd := h.d
  simp only at hd
  subst hd
  exact congrArg (fun z => Act.mk z []) e
theorem code_0 {w : World} {B : Nat} {A : Option Addr} {n c : Nat} {l : List UInt8} (hl : BS w B A n c l) (b : UInt8) (hi : 0 < n) (hb : l[0]? = some b) (k1 k2 : Int) {a : Act} (ha : Fr (.slice A n c) k1 k2 a) :
    (aft (bk 0)).wp Try.prog (fun e a' w' => e = .exit 0 ∧ w' = w ∧ Fr (.slice A n c) (fst (xr k1 (sx b 0))) k2 a') a w := by
  have h0 := Lib.hid (at_lit w hl 0 0 b 0 rfl hi (by omega) hb rfl)
  clear hl
  obtain ⟨f, rfl⟩ := ha.form
  clear ha
  conv => enter [2]; whnf
  go_wp2_with fail
  refine h0.out.mono ?_
  rintro e w' ⟨rfl, rfl⟩
  go_wp2_with fail
  refine (fst_any _ _).mono ?_
  rintro e w' ⟨rfl, rfl⟩
  go_wp2_with fail
  (first | exact ⟨rfl, rfl, rfl, rfl, rfl, rfl, rfl⟩ | exact ⟨rfl, rfl, ⟨rfl, rfl, rfl, rfl, rfl, rfl, rfl⟩⟩)
theorem code_1 {w : World} {B : Nat} {A : Option Addr} {n c : Nat} {l : List UInt8} (hl : BS w B A n c l) (b : UInt8) (hi : 1 < n) (hb : l[1]? = some b) (k1 k2 : Int) {a : Act} (ha : Fr (.slice A n c) k1 k2 a) :
    (aft (bk 1)).wp Try.prog (fun e a' w' => e = .normal ∧ w' = w ∧ Fr (.slice A n c) (xr k1 (sx b 1)) k2 a') a w := by
  have h0 := Lib.hid (at_lit w hl 1 1 b 1 rfl hi (by omega) hb rfl)
  clear hl
  obtain ⟨f, rfl⟩ := ha.form
  clear ha
  conv => enter [2]; whnf
  go_wp2_with fail
  refine h0.out.mono ?_
  rintro e w' ⟨rfl, rfl⟩
  go_wp2_with fail
  (first | exact ⟨rfl, rfl, rfl, rfl, rfl, rfl, rfl⟩ | exact ⟨rfl, rfl, ⟨rfl, rfl, rfl, rfl, rfl, rfl, rfl⟩⟩)
theorem code_2 {w : World} {B : Nat} {A : Option Addr} {n c : Nat} {l : List UInt8} (hl : BS w B A n c l) (b : UInt8) (hi : 2 < n) (hb : l[2]? = some b) (k1 k2 : Int) {a : Act} (ha : Fr (.slice A n c) k1 k2 a) :
    (aft (bk 2)).wp Try.prog (fun e a' w' => e = .normal ∧ w' = w ∧ Fr (.slice A n c) (xr k1 (sx b 2)) k2 a') a w := by
  have h0 := Lib.hid (at_lit w hl 2 2 b 2 rfl hi (by omega) hb rfl)
  clear hl
  obtain ⟨f, rfl⟩ := ha.form
  clear ha
  conv => enter [2]; whnf
  go_wp2_with fail
  refine h0.out.mono ?_
  rintro e w' ⟨rfl, rfl⟩
  go_wp2_with fail
  (first | exact ⟨rfl, rfl, rfl, rfl, rfl, rfl, rfl⟩ | exact ⟨rfl, rfl, ⟨rfl, rfl, rfl, rfl, rfl, rfl, rfl⟩⟩)
theorem code_3 {w : World} {B : Nat} {A : Option Addr} {n c : Nat} {l : List UInt8} (hl : BS w B A n c l) (b : UInt8) (hi : 3 < n) (hb : l[3]? = some b) (k1 k2 : Int) {a : Act} (ha : Fr (.slice A n c) k1 k2 a) :
    (aft (bk 3)).wp Try.prog (fun e a' w' => e = .normal ∧ w' = w ∧ Fr (.slice A n c) (xr k1 (sx b 3)) k2 a') a w := by
  have h0 := Lib.hid (at_lit w hl 3 3 b 3 rfl hi (by omega) hb rfl)
  clear hl
  obtain ⟨f, rfl⟩ := ha.form
  clear ha
  conv => enter [2]; whnf
  go_wp2_with fail
  refine h0.out.mono ?_
  rintro e w' ⟨rfl, rfl⟩
  go_wp2_with fail
  (first | exact ⟨rfl, rfl, rfl, rfl, rfl, rfl, rfl⟩ | exact ⟨rfl, rfl, ⟨rfl, rfl, rfl, rfl, rfl, rfl, rfl⟩⟩)
theorem code_4 {w : World} {B : Nat} {A : Option Addr} {n c : Nat} {l : List UInt8} (hl : BS w B A n c l) (b : UInt8) (hi : 4 < n) (hb : l[4]? = some b) (k1 k2 : Int) {a : Act} (ha : Fr (.slice A n c) k1 k2 a) :
    (aft (bk 4)).wp Try.prog (fun e a' w' => e = .normal ∧ w' = w ∧ Fr (.slice A n c) (xr k1 (sx b 4)) k2 a') a w := by
  have h0 := Lib.hid (at_lit w hl 4 4 b 4 rfl hi (by omega) hb rfl)
  clear hl
  obtain ⟨f, rfl⟩ := ha.form
  clear ha
  conv => enter [2]; whnf
  go_wp2_with fail
  refine h0.out.mono ?_
  rintro e w' ⟨rfl, rfl⟩
  go_wp2_with fail
  (first | exact ⟨rfl, rfl, rfl, rfl, rfl, rfl, rfl⟩ | exact ⟨rfl, rfl, ⟨rfl, rfl, rfl, rfl, rfl, rfl, rfl⟩⟩)
theorem code_5 {w : World} {B : Nat} {A : Option Addr} {n c : Nat} {l : List UInt8} (hl : BS w B A n c l) (b : UInt8) (hi : 5 < n) (hb : l[5]? = some b) (k1 k2 : Int) {a : Act} (ha : Fr (.slice A n c) k1 k2 a) :
    (aft (bk 5)).wp Try.prog (fun e a' w' => e = .normal ∧ w' = w ∧ Fr (.slice A n c) (xr k1 (sx b 5)) k2 a') a w := by
  have h0 := Lib.hid (at_lit w hl 5 5 b 5 rfl hi (by omega) hb rfl)
  clear hl
  obtain ⟨f, rfl⟩ := ha.form
  clear ha
  conv => enter [2]; whnf
  go_wp2_with fail
  refine h0.out.mono ?_
  rintro e w' ⟨rfl, rfl⟩
  go_wp2_with fail
  (first | exact ⟨rfl, rfl, rfl, rfl, rfl, rfl, rfl⟩ | exact ⟨rfl, rfl, ⟨rfl, rfl, rfl, rfl, rfl, rfl, rfl⟩⟩)
theorem code_6 {w : World} {B : Nat} {A : Option Addr} {n c : Nat} {l : List UInt8} (hl : BS w B A n c l) (b : UInt8) (hi : 6 < n) (hb : l[6]? = some b) (k1 k2 : Int) {a : Act} (ha : Fr (.slice A n c) k1 k2 a) :
    (aft (bk 6)).wp Try.prog (fun e a' w' => e = .normal ∧ w' = w ∧ Fr (.slice A n c) (xr k1 (sx b 6)) k2 a') a w := by
  have h0 := Lib.hid (at_lit w hl 6 6 b 6 rfl hi (by omega) hb rfl)
  clear hl
  obtain ⟨f, rfl⟩ := ha.form
  clear ha
  conv => enter [2]; whnf
  go_wp2_with fail
  refine h0.out.mono ?_
  rintro e w' ⟨rfl, rfl⟩
  go_wp2_with fail
  (first | exact ⟨rfl, rfl, rfl, rfl, rfl, rfl, rfl⟩ | exact ⟨rfl, rfl, ⟨rfl, rfl, rfl, rfl, rfl, rfl, rfl⟩⟩)
theorem code_7 {w : World} {B : Nat} {A : Option Addr} {n c : Nat} {l : List UInt8} (hl : BS w B A n c l) (b : UInt8) (hi : 7 < n) (hb : l[7]? = some b) (k1 k2 : Int) {a : Act} (ha : Fr (.slice A n c) k1 k2 a) :
    (aft (bk 7)).wp Try.prog (fun e a' w' => e = .normal ∧ w' = w ∧ Fr (.slice A n c) (xr k1 (sx b 7)) k2 a') a w := by
  have h0 := Lib.hid (at_lit w hl 7 7 b 7 rfl hi (by omega) hb rfl)
  clear hl
  obtain ⟨f, rfl⟩ := ha.form
  clear ha
  conv => enter [2]; whnf
  go_wp2_with fail
  refine h0.out.mono ?_
  rintro e w' ⟨rfl, rfl⟩
  go_wp2_with fail
  (first | exact ⟨rfl, rfl, rfl, rfl, rfl, rfl, rfl⟩ | exact ⟨rfl, rfl, ⟨rfl, rfl, rfl, rfl, rfl, rfl, rfl⟩⟩)
theorem code_8 {w : World} {B : Nat} {A : Option Addr} {n c : Nat} {l : List UInt8} (hl : BS w B A n c l) (b : UInt8) (hi : 8 < n) (hb : l[8]? = some b) (k1 k2 : Int) {a : Act} (ha : Fr (.slice A n c) k1 k2 a) :
    (aft (bk 8)).wp Try.prog (fun e a' w' => e = .normal ∧ w' = w ∧ Fr (.slice A n c) k1 (snd (xr k2 (sx b 0))) a') a w := by
  have h0 := Lib.hid (at_lit w hl 8 8 b 0 rfl hi (by omega) hb rfl)
  clear hl
  obtain ⟨f, rfl⟩ := ha.form
  clear ha
  conv => enter [2]; whnf
  go_wp2_with fail
  refine h0.out.mono ?_
  rintro e w' ⟨rfl, rfl⟩
  go_wp2_with fail
  refine (snd_any _ _).mono ?_
  rintro e w' ⟨rfl, rfl⟩
  go_wp2_with fail
  (first | exact ⟨rfl, rfl, rfl, rfl, rfl, rfl, rfl⟩ | exact ⟨rfl, rfl, ⟨rfl, rfl, rfl, rfl, rfl, rfl, rfl⟩⟩)
theorem code_9 {w : World} {B : Nat} {A : Option Addr} {n c : Nat} {l : List UInt8} (hl : BS w B A n c l) (b : UInt8) (hi : 9 < n) (hb : l[9]? = some b) (k1 k2 : Int) {a : Act} (ha : Fr (.slice A n c) k1 k2 a) :
    (aft (bk 9)).wp Try.prog (fun e a' w' => e = .normal ∧ w' = w ∧ Fr (.slice A n c) k1 (xr k2 (sx b 1)) a') a w := by
  have h0 := Lib.hid (at_lit w hl 9 9 b 1 rfl hi (by omega) hb rfl)
  clear hl
  obtain ⟨f, rfl⟩ := ha.form
  clear ha
  conv => enter [2]; whnf
  go_wp2_with fail
  refine h0.out.mono ?_
  rintro e w' ⟨rfl, rfl⟩
  go_wp2_with fail
  (first | exact ⟨rfl, rfl, rfl, rfl, rfl, rfl, rfl⟩ | exact ⟨rfl, rfl, ⟨rfl, rfl, rfl, rfl, rfl, rfl, rfl⟩⟩)
theorem code_10 {w : World} {B : Nat} {A : Option Addr} {n c : Nat} {l : List UInt8} (hl : BS w B A n c l) (b : UInt8) (hi : 10 < n) (hb : l[10]? = some b) (k1 k2 : Int) {a : Act} (ha : Fr (.slice A n c) k1 k2 a) :
    (aft (bk 10)).wp Try.prog (fun e a' w' => e = .normal ∧ w' = w ∧ Fr (.slice A n c) k1 (xr k2 (sx b 2)) a') a w := by
  have h0 := Lib.hid (at_lit w hl 10 10 b 2 rfl hi (by omega) hb rfl)
  clear hl
  obtain ⟨f, rfl⟩ := ha.form
  clear ha
  conv => enter [2]; whnf
  go_wp2_with fail
  refine h0.out.mono ?_
  rintro e w' ⟨rfl, rfl⟩
  go_wp2_with fail
  (first | exact ⟨rfl, rfl, rfl, rfl, rfl, rfl, rfl⟩ | exact ⟨rfl, rfl, ⟨rfl, rfl, rfl, rfl, rfl, rfl, rfl⟩⟩)
theorem code_11 {w : World} {B : Nat} {A : Option Addr} {n c : Nat} {l : List UInt8} (hl : BS w B A n c l) (b : UInt8) (hi : 11 < n) (hb : l[11]? = some b) (k1 k2 : Int) {a : Act} (ha : Fr (.slice A n c) k1 k2 a) :
    (aft (bk 11)).wp Try.prog (fun e a' w' => e = .normal ∧ w' = w ∧ Fr (.slice A n c) k1 (xr k2 (sx b 3)) a') a w := by
  have h0 := Lib.hid (at_lit w hl 11 11 b 3 rfl hi (by omega) hb rfl)
  clear hl
  obtain ⟨f, rfl⟩ := ha.form
  clear ha
  conv => enter [2]; whnf
  go_wp2_with fail
  refine h0.out.mono ?_
  rintro e w' ⟨rfl, rfl⟩
  go_wp2_with fail
  (first | exact ⟨rfl, rfl, rfl, rfl, rfl, rfl, rfl⟩ | exact ⟨rfl, rfl, ⟨rfl, rfl, rfl, rfl, rfl, rfl, rfl⟩⟩)
theorem code_12 {w : World} {B : Nat} {A : Option Addr} {n c : Nat} {l : List UInt8} (hl : BS w B A n c l) (b : UInt8) (hi : 12 < n) (hb : l[12]? = some b) (k1 k2 : Int) {a : Act} (ha : Fr (.slice A n c) k1 k2 a) :
    (aft (bk 12)).wp Try.prog (fun e a' w' => e = .normal ∧ w' = w ∧ Fr (.slice A n c) k1 (xr k2 (sx b 4)) a') a w := by
  have h0 := Lib.hid (at_lit w hl 12 12 b 4 rfl hi (by omega) hb rfl)
  clear hl
  obtain ⟨f, rfl⟩ := ha.form
  clear ha
  conv => enter [2]; whnf
  go_wp2_with fail
  refine h0.out.mono ?_
  rintro e w' ⟨rfl, rfl⟩
  go_wp2_with fail
  (first | exact ⟨rfl, rfl, rfl, rfl, rfl, rfl, rfl⟩ | exact ⟨rfl, rfl, ⟨rfl, rfl, rfl, rfl, rfl, rfl, rfl⟩⟩)
theorem code_13 {w : World} {B : Nat} {A : Option Addr} {n c : Nat} {l : List UInt8} (hl : BS w B A n c l) (b : UInt8) (hi : 13 < n) (hb : l[13]? = some b) (k1 k2 : Int) {a : Act} (ha : Fr (.slice A n c) k1 k2 a) :
    (aft (bk 13)).wp Try.prog (fun e a' w' => e = .normal ∧ w' = w ∧ Fr (.slice A n c) k1 (xr k2 (sx b 5)) a') a w := by
  have h0 := Lib.hid (at_lit w hl 13 13 b 5 rfl hi (by omega) hb rfl)
  clear hl
  obtain ⟨f, rfl⟩ := ha.form
  clear ha
  conv => enter [2]; whnf
  go_wp2_with fail
  refine h0.out.mono ?_
  rintro e w' ⟨rfl, rfl⟩
  go_wp2_with fail
  (first | exact ⟨rfl, rfl, rfl, rfl, rfl, rfl, rfl⟩ | exact ⟨rfl, rfl, ⟨rfl, rfl, rfl, rfl, rfl, rfl, rfl⟩⟩)
theorem code_14 {w : World} {B : Nat} {A : Option Addr} {n c : Nat} {l : List UInt8} (hl : BS w B A n c l) (b : UInt8) (hi : 14 < n) (hb : l[14]? = some b) (k1 k2 : Int) {a : Act} (ha : Fr (.slice A n c) k1 k2 a) :
    (aft (bk 14)).wp Try.prog (fun e a' w' => e = .normal ∧ w' = w ∧ Fr (.slice A n c) k1 (xr k2 (sx b 6)) a') a w := by
  have h0 := Lib.hid (at_lit w hl 14 14 b 6 rfl hi (by omega) hb rfl)
  clear hl
  obtain ⟨f, rfl⟩ := ha.form
  clear ha
  conv => enter [2]; whnf
  go_wp2_with fail
  refine h0.out.mono ?_
  rintro e w' ⟨rfl, rfl⟩
  go_wp2_with fail
  (first | exact ⟨rfl, rfl, rfl, rfl, rfl, rfl, rfl⟩ | exact ⟨rfl, rfl, ⟨rfl, rfl, rfl, rfl, rfl, rfl, rfl⟩⟩)
end Go.Proofs.Ytapekipfkghdhaa
