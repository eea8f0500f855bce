/- prepared: the switch of PreparedPlays: its code, its frame. No condition. -/
import Derived.Test.YtfcopniihcaefaaPZ
import Derived.BigQuiet
import Derived.Deep.QuietTactic
import Derived.Deep.RegionWith
import Derived.Control
namespace Go.Proofs.Ytfcopniihcaefaa
open Go.RowKit
def findB (n : Nat) : Code → Option Code
  | .block k c => if k == n then some (.block k c) else findB n c
  | .seq a b => (findB n a).or (findB n b)
  | .cond _ a b => (findB n a).or (findB n b)
  | .loop c => findB n c
  | _ => none
noncomputable def sw : Code := (findB 2 ((Try.f3.body).getD .skip)).getD .skip
/-- What the frame holds around the switch. -/
structure FrP (n : Int) (g o N c P Q k : Nat) (a : Act) : Prop where
  d : a.defers = []
  sz : a.tmps.size = 165
  f0 : a.tmps.getD 0 undef = .int .i64 n
  f1 : a.tmps.getD 1 undef = .slice (some ⟨g, o, none⟩) N c
  f2 : a.tmps.getD 2 undef = undef
  f3 : a.tmps.getD 3 undef = undef
  f5 : a.tmps.getD 5 undef = .bool true
  f6 : a.tmps.getD 6 undef = .pointer (some ⟨P, 0, none⟩)
  f7 : a.tmps.getD 7 undef = .pointer (some ⟨Q, 0, none⟩)
  f8 : a.tmps.getD 8 undef = .int .i64 k
  f24 : a.tmps.getD 24 undef = .bool true
  f25 : a.tmps.getD 25 undef = .bool true
  f26 : a.tmps.getD 26 undef = .bool false
  f27 : a.tmps.getD 27 undef = .int .i64 n
  f28 : a.tmps.getD 28 undef = .pointer (some ⟨P, 0, none⟩)
  f29 : a.tmps.getD 29 undef = .int .i64 n
  f30 : a.tmps.getD 30 undef = .agg #[.int .i64 n, .slice none 0 0]
theorem arr_form (arr : Array Value) (h : arr.size = 165) : arr = #[arr.getD 0 undef, arr.getD 1 undef, arr.getD 2 undef, arr.getD 3 undef, arr.getD 4 undef, arr.getD 5 undef, arr.getD 6 undef, arr.getD 7 undef, arr.getD 8 undef, arr.getD 9 undef, arr.getD 10 undef, arr.getD 11 undef, arr.getD 12 undef, arr.getD 13 undef, arr.getD 14 undef, arr.getD 15 undef, arr.getD 16 undef, arr.getD 17 undef, arr.getD 18 undef, arr.getD 19 undef, arr.getD 20 undef, arr.getD 21 undef, arr.getD 22 undef, arr.getD 23 undef, arr.getD 24 undef, arr.getD 25 undef, arr.getD 26 undef, arr.getD 27 undef, arr.getD 28 undef, arr.getD 29 undef, arr.getD 30 undef, arr.getD 31 undef, arr.getD 32 undef, arr.getD 33 undef, arr.getD 34 undef, arr.getD 35 undef, arr.getD 36 undef, arr.getD 37 undef, arr.getD 38 undef, arr.getD 39 undef, arr.getD 40 undef, arr.getD 41 undef, arr.getD 42 undef, arr.getD 43 undef, arr.getD 44 undef, arr.getD 45 undef, arr.getD 46 undef, arr.getD 47 undef, arr.getD 48 undef, arr.getD 49 undef, arr.getD 50 undef, arr.getD 51 undef, arr.getD 52 undef, arr.getD 53 undef, arr.getD 54 undef, arr.getD 55 undef, arr.getD 56 undef, arr.getD 57 undef, arr.getD 58 undef, arr.getD 59 undef, arr.getD 60 undef, arr.getD 61 undef, arr.getD 62 undef, arr.getD 63 undef, arr.getD 64 undef, arr.getD 65 undef, arr.getD 66 undef, arr.getD 67 undef, arr.getD 68 undef, arr.getD 69 undef, arr.getD 70 undef, arr.getD 71 undef, arr.getD 72 undef, arr.getD 73 undef, arr.getD 74 undef, arr.getD 75 undef, arr.getD 76 undef, arr.getD 77 undef, arr.getD 78 undef, arr.getD 79 undef, arr.getD 80 undef, arr.getD 81 undef, arr.getD 82 undef, arr.getD 83 undef, arr.getD 84 undef, arr.getD 85 undef, arr.getD 86 undef, arr.getD 87 undef, arr.getD 88 undef, arr.getD 89 undef, arr.getD 90 undef, arr.getD 91 undef, arr.getD 92 undef, arr.getD 93 undef, arr.getD 94 undef, arr.getD 95 undef, arr.getD 96 undef, arr.getD 97 undef, arr.getD 98 undef, arr.getD 99 undef, arr.getD 100 undef, arr.getD 101 undef, arr.getD 102 undef, arr.getD 103 undef, arr.getD 104 undef, arr.getD 105 undef, arr.getD 106 undef, arr.getD 107 undef, arr.getD 108 undef, arr.getD 109 undef, arr.getD 110 undef, arr.getD 111 undef, arr.getD 112 undef, arr.getD 113 undef, arr.getD 114 undef, arr.getD 115 undef, arr.getD 116 undef, arr.getD 117 undef, arr.getD 118 undef, arr.getD 119 undef, arr.getD 120 undef, arr.getD 121 undef, arr.getD 122 undef, arr.getD 123 undef, arr.getD 124 undef, arr.getD 125 undef, arr.getD 126 undef, arr.getD 127 undef, arr.getD 128 undef, arr.getD 129 undef, arr.getD 130 undef, arr.getD 131 undef, arr.getD 132 undef, arr.getD 133 undef, arr.getD 134 undef, arr.getD 135 undef, arr.getD 136 undef, arr.getD 137 undef, arr.getD 138 undef, arr.getD 139 undef, arr.getD 140 undef, arr.getD 141 undef, arr.getD 142 undef, arr.getD 143 undef, arr.getD 144 undef, arr.getD 145 undef, arr.getD 146 undef, arr.getD 147 undef, arr.getD 148 undef, arr.getD 149 undef, arr.getD 150 undef, arr.getD 151 undef, arr.getD 152 undef, arr.getD 153 undef, arr.getD 154 undef, arr.getD 155 undef, arr.getD 156 undef, arr.getD 157 undef, arr.getD 158 undef, arr.getD 159 undef, arr.getD 160 undef, arr.getD 161 undef, arr.getD 162 undef, arr.getD 163 undef, arr.getD 164 undef] := by
  have e : arr.toList = (List.range 165).map (fun i => arr.getD i undef) := by
    apply List.ext_getElem
    · simp [h]
    · intro i h1 h2
      have h3 : i < arr.size := by simpa using h1
      simp [Array.getD, h3]
  have e2 : arr = ((List.range 165).map (fun i => arr.getD i undef)).toArray := by rw [← e]
  exact e2.trans rfl
theorem FrP.form {n : Int} {g o N c P Q k : Nat} {a : Act} (h : FrP n g o N c P Q k a) : ∃ f : Nat → Value, a = { tmps := #[.int .i64 n, .slice (some ⟨g, o, none⟩) N c, undef, undef, f 4, .bool true, .pointer (some ⟨P, 0, none⟩), .pointer (some ⟨Q, 0, none⟩), .int .i64 k, f 9, f 10, f 11, f 12, f 13, f 14, f 15, f 16, f 17, f 18, f 19, f 20, f 21, f 22, f 23, .bool true, .bool true, .bool false, .int .i64 n, .pointer (some ⟨P, 0, none⟩), .int .i64 n, .agg #[.int .i64 n, .slice none 0 0], f 31, f 32, f 33, f 34, f 35, f 36, f 37, f 38, f 39, f 40, f 41, f 42, f 43, f 44, f 45, f 46, f 47, f 48, f 49, f 50, f 51, f 52, f 53, f 54, f 55, f 56, f 57, f 58, f 59, f 60, f 61, f 62, f 63, f 64, f 65, f 66, f 67, f 68, f 69, f 70, f 71, f 72, f 73, f 74, f 75, f 76, f 77, f 78, f 79, f 80, f 81, f 82, f 83, f 84, f 85, f 86, f 87, f 88, f 89, f 90, f 91, f 92, f 93, f 94, f 95, f 96, f 97, f 98, f 99, f 100, f 101, f 102, f 103, f 104, f 105, f 106, f 107, f 108, f 109, f 110, f 111, f 112, f 113, f 114, f 115, f 116, f 117, f 118, f 119, f 120, f 121, f 122, f 123, f 124, f 125, f 126, f 127, f 128, f 129, f 130, f 131, f 132, f 133, f 134, f 135, f 136, f 137, f 138, f 139, f 140, f 141, f 142, f 143, f 144, f 145, f 146, f 147, f 148, f 149, f 150, f 151, f 152, f 153, f 154, f 155, f 156, f 157, f 158, f 159, f 160, f 161, f 162, f 163, f 164], defers := [] } ∧ (a.tmps.getD 9 undef = f 9) ∧ a.tmps.getD 52 undef = f 52 := by
  refine ⟨fun i => a.tmps.getD i undef, ?_, rfl, rfl⟩
  have e := arr_form a.tmps h.sz
  rw [h.f0, h.f1, h.f2, h.f3, h.f5, h.f6, h.f7, h.f8, h.f24, h.f25, h.f26, h.f27, h.f28, h.f29, h.f30] at e
  obtain ⟨tm, de⟩ := a
  have hd := h.d
  simp only at hd
  subst hd
  exact congrArg (fun z => Act.mk z []) e
/-- What a round's switch comes to. -/
def RW (W : World) (P Q m : Nat) (n : Int) (k : Nat) (w : World) : Prop := ∃ v L, PL w P Q m n v L ∧ L.length ≤ k + 1 ∧ Below W.heap.size W w
/-- What a round begins with: the two caches, the operation's box. -/
structure RS (W w : World) (P Q m : Nat) (n : Int) (k X : Nat) (v : Value) (L : List KE) (kd : Int) (t i : List UInt8) (A : Option Addr) (ne c : Nat) (ks : List Nat) : Prop where
  pl : PL w P Q m n v L
  len : L.length ≤ k
  k60 : k < 60
  hm : max n 0 = (m : Int)
  bel : Below W.heap.size W w
  wp : W.heap.size ≤ P
  wq : W.heap.size ≤ Q
  row : Row w X 33 #[.int .i64 kd, .string ⟨t.toArray⟩, .string ⟨i.toArray⟩, .slice A ne c]
  far : Far w P v X
  us : US W W.heap.size A ne c ks
  ne : ne ≤ 50
theorem Row.four {w : World} {p : Nat} {ty : TypeId} {a b c d : Value} (h : Row w p ty #[a, b, c, d]) : w.cell? ⟨p, 0, none⟩ = some a ∧ w.cell? ⟨p, 1, none⟩ = some b ∧ w.cell? ⟨p, 2, none⟩ = some c ∧ w.cell? ⟨p, 3, none⟩ = some d ∧ p < w.heap.size := by
  have h0 := h.cell 0
  have h1 := h.cell 1
  have h2 := h.cell 2
  have h3 := h.cell 3
  simp only [List.getElem?_toArray, List.getElem?_cons_zero, List.getElem?_cons_succ] at h0 h1 h2 h3
  exact ⟨h0, h1, h2, h3, h.lt⟩
theorem PL.sizes {w : World} {P Q m : Nat} {n : Int} {v : Value} {L : List KE} (h : PL w P Q m n v L) : P < w.heap.size ∧ Q < w.heap.size ∧ ∀ g, v.ownBlock = some g → g < w.heap.size :=
  ⟨h.ck.le, h.far.lt, fun _ hg => (h.ck.row hg).2⟩
/-- How the switch is left. -/
def JP (n : Int) (g o N c P Q k : Nat) (W : World) (m : Nat) (ex : Exit) (a' : Act) (w' : World) : Prop :=
  match ex with
  | .normal => FrP n g o N c P Q k a' ∧ RW W P Q m n k w'
  | _ => False
end Go.Proofs.Ytfcopniihcaefaa
