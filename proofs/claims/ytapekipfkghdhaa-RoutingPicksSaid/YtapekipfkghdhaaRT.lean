/- murmur.rest: the tests of its switch, for each length; the whole of it. -/
import Derived.Test.YtapekipfkghdhaaRB
namespace Go.Proofs.Ytapekipfkghdhaa
open Go.RowKit
theorem test_0 {w : World} {s : Value} {a : Act} (ha : Fr s 0 0 a) (h7 : a.tmps.getD 7 undef = .int .i64 0) :
    (inn (bk 15)).wp Try.prog (fun e a' w' => e = .normal ∧ w' = w ∧ Fr s 0 0 a') a w := by
  obtain ⟨f, rfl⟩ := ha.form
  clear ha
  rw [show f 7 = .int .i64 0 from h7]
  clear h7
  conv => enter [2]; whnf
  go_wp2_with fail
  (first | exact ⟨rfl, rfl, rfl, rfl, rfl, rfl, rfl⟩ | exact ⟨rfl, rfl, ⟨rfl, rfl, rfl, rfl, rfl, rfl, rfl⟩⟩)
theorem test_1 {w : World} {s : Value} {a : Act} (ha : Fr s 0 0 a) (h7 : a.tmps.getD 7 undef = .int .i64 1) :
    (inn (bk 15)).wp Try.prog (fun e a' w' => e = .exit 15 ∧ w' = w ∧ Fr s 0 0 a') a w := by
  obtain ⟨f, rfl⟩ := ha.form
  clear ha
  rw [show f 7 = .int .i64 1 from h7]
  clear h7
  conv => enter [2]; whnf
  go_wp2_with fail
  (first | exact ⟨rfl, rfl, rfl, rfl, rfl, rfl, rfl⟩ | exact ⟨rfl, rfl, ⟨rfl, rfl, rfl, rfl, rfl, rfl, rfl⟩⟩)
theorem test_2 {w : World} {s : Value} {a : Act} (ha : Fr s 0 0 a) (h7 : a.tmps.getD 7 undef = .int .i64 2) :
    (inn (bk 15)).wp Try.prog (fun e a' w' => e = .exit 14 ∧ w' = w ∧ Fr s 0 0 a') a w := by
  obtain ⟨f, rfl⟩ := ha.form
  clear ha
  rw [show f 7 = .int .i64 2 from h7]
  clear h7
  conv => enter [2]; whnf
  go_wp2_with fail
  (first | exact ⟨rfl, rfl, rfl, rfl, rfl, rfl, rfl⟩ | exact ⟨rfl, rfl, ⟨rfl, rfl, rfl, rfl, rfl, rfl, rfl⟩⟩)
theorem test_3 {w : World} {s : Value} {a : Act} (ha : Fr s 0 0 a) (h7 : a.tmps.getD 7 undef = .int .i64 3) :
    (inn (bk 15)).wp Try.prog (fun e a' w' => e = .exit 13 ∧ w' = w ∧ Fr s 0 0 a') a w := by
  obtain ⟨f, rfl⟩ := ha.form
  clear ha
  rw [show f 7 = .int .i64 3 from h7]
  clear h7
  conv => enter [2]; whnf
  go_wp2_with fail
  (first | exact ⟨rfl, rfl, rfl, rfl, rfl, rfl, rfl⟩ | exact ⟨rfl, rfl, ⟨rfl, rfl, rfl, rfl, rfl, rfl, rfl⟩⟩)
theorem test_4 {w : World} {s : Value} {a : Act} (ha : Fr s 0 0 a) (h7 : a.tmps.getD 7 undef = .int .i64 4) :
    (inn (bk 15)).wp Try.prog (fun e a' w' => e = .exit 12 ∧ w' = w ∧ Fr s 0 0 a') a w := by
  obtain ⟨f, rfl⟩ := ha.form
  clear ha
  rw [show f 7 = .int .i64 4 from h7]
  clear h7
  conv => enter [2]; whnf
  go_wp2_with fail
  (first | exact ⟨rfl, rfl, rfl, rfl, rfl, rfl, rfl⟩ | exact ⟨rfl, rfl, ⟨rfl, rfl, rfl, rfl, rfl, rfl, rfl⟩⟩)
theorem test_5 {w : World} {s : Value} {a : Act} (ha : Fr s 0 0 a) (h7 : a.tmps.getD 7 undef = .int .i64 5) :
    (inn (bk 15)).wp Try.prog (fun e a' w' => e = .exit 11 ∧ w' = w ∧ Fr s 0 0 a') a w := by
  obtain ⟨f, rfl⟩ := ha.form
  clear ha
  rw [show f 7 = .int .i64 5 from h7]
  clear h7
  conv => enter [2]; whnf
  go_wp2_with fail
  (first | exact ⟨rfl, rfl, rfl, rfl, rfl, rfl, rfl⟩ | exact ⟨rfl, rfl, ⟨rfl, rfl, rfl, rfl, rfl, rfl, rfl⟩⟩)
theorem test_6 {w : World} {s : Value} {a : Act} (ha : Fr s 0 0 a) (h7 : a.tmps.getD 7 undef = .int .i64 6) :
    (inn (bk 15)).wp Try.prog (fun e a' w' => e = .exit 10 ∧ w' = w ∧ Fr s 0 0 a') a w := by
  obtain ⟨f, rfl⟩ := ha.form
  clear ha
  rw [show f 7 = .int .i64 6 from h7]
  clear h7
  conv => enter [2]; whnf
  go_wp2_with fail
  (first | exact ⟨rfl, rfl, rfl, rfl, rfl, rfl, rfl⟩ | exact ⟨rfl, rfl, ⟨rfl, rfl, rfl, rfl, rfl, rfl, rfl⟩⟩)
theorem test_7 {w : World} {s : Value} {a : Act} (ha : Fr s 0 0 a) (h7 : a.tmps.getD 7 undef = .int .i64 7) :
    (inn (bk 15)).wp Try.prog (fun e a' w' => e = .exit 9 ∧ w' = w ∧ Fr s 0 0 a') a w := by
  obtain ⟨f, rfl⟩ := ha.form
  clear ha
  rw [show f 7 = .int .i64 7 from h7]
  clear h7
  conv => enter [2]; whnf
  go_wp2_with fail
  (first | exact ⟨rfl, rfl, rfl, rfl, rfl, rfl, rfl⟩ | exact ⟨rfl, rfl, ⟨rfl, rfl, rfl, rfl, rfl, rfl, rfl⟩⟩)
theorem test_8 {w : World} {s : Value} {a : Act} (ha : Fr s 0 0 a) (h7 : a.tmps.getD 7 undef = .int .i64 8) :
    (inn (bk 15)).wp Try.prog (fun e a' w' => e = .exit 8 ∧ w' = w ∧ Fr s 0 0 a') a w := by
  obtain ⟨f, rfl⟩ := ha.form
  clear ha
  rw [show f 7 = .int .i64 8 from h7]
  clear h7
  conv => enter [2]; whnf
  go_wp2_with fail
  (first | exact ⟨rfl, rfl, rfl, rfl, rfl, rfl, rfl⟩ | exact ⟨rfl, rfl, ⟨rfl, rfl, rfl, rfl, rfl, rfl, rfl⟩⟩)
theorem test_9 {w : World} {s : Value} {a : Act} (ha : Fr s 0 0 a) (h7 : a.tmps.getD 7 undef = .int .i64 9) :
    (inn (bk 15)).wp Try.prog (fun e a' w' => e = .exit 7 ∧ w' = w ∧ Fr s 0 0 a') a w := by
  obtain ⟨f, rfl⟩ := ha.form
  clear ha
  rw [show f 7 = .int .i64 9 from h7]
  clear h7
  conv => enter [2]; whnf
  go_wp2_with fail
  (first | exact ⟨rfl, rfl, rfl, rfl, rfl, rfl, rfl⟩ | exact ⟨rfl, rfl, ⟨rfl, rfl, rfl, rfl, rfl, rfl, rfl⟩⟩)
theorem test_10 {w : World} {s : Value} {a : Act} (ha : Fr s 0 0 a) (h7 : a.tmps.getD 7 undef = .int .i64 10) :
    (inn (bk 15)).wp Try.prog (fun e a' w' => e = .exit 6 ∧ w' = w ∧ Fr s 0 0 a') a w := by
  obtain ⟨f, rfl⟩ := ha.form
  clear ha
  rw [show f 7 = .int .i64 10 from h7]
  clear h7
  conv => enter [2]; whnf
  go_wp2_with fail
  (first | exact ⟨rfl, rfl, rfl, rfl, rfl, rfl, rfl⟩ | exact ⟨rfl, rfl, ⟨rfl, rfl, rfl, rfl, rfl, rfl, rfl⟩⟩)
theorem test_11 {w : World} {s : Value} {a : Act} (ha : Fr s 0 0 a) (h7 : a.tmps.getD 7 undef = .int .i64 11) :
    (inn (bk 15)).wp Try.prog (fun e a' w' => e = .exit 5 ∧ w' = w ∧ Fr s 0 0 a') a w := by
  obtain ⟨f, rfl⟩ := ha.form
  clear ha
  rw [show f 7 = .int .i64 11 from h7]
  clear h7
  conv => enter [2]; whnf
  go_wp2_with fail
  (first | exact ⟨rfl, rfl, rfl, rfl, rfl, rfl, rfl⟩ | exact ⟨rfl, rfl, ⟨rfl, rfl, rfl, rfl, rfl, rfl, rfl⟩⟩)
theorem test_12 {w : World} {s : Value} {a : Act} (ha : Fr s 0 0 a) (h7 : a.tmps.getD 7 undef = .int .i64 12) :
    (inn (bk 15)).wp Try.prog (fun e a' w' => e = .exit 4 ∧ w' = w ∧ Fr s 0 0 a') a w := by
  obtain ⟨f, rfl⟩ := ha.form
  clear ha
  rw [show f 7 = .int .i64 12 from h7]
  clear h7
  conv => enter [2]; whnf
  go_wp2_with fail
  (first | exact ⟨rfl, rfl, rfl, rfl, rfl, rfl, rfl⟩ | exact ⟨rfl, rfl, ⟨rfl, rfl, rfl, rfl, rfl, rfl, rfl⟩⟩)
theorem test_13 {w : World} {s : Value} {a : Act} (ha : Fr s 0 0 a) (h7 : a.tmps.getD 7 undef = .int .i64 13) :
    (inn (bk 15)).wp Try.prog (fun e a' w' => e = .exit 3 ∧ w' = w ∧ Fr s 0 0 a') a w := by
  obtain ⟨f, rfl⟩ := ha.form
  clear ha
  rw [show f 7 = .int .i64 13 from h7]
  clear h7
  conv => enter [2]; whnf
  go_wp2_with fail
  (first | exact ⟨rfl, rfl, rfl, rfl, rfl, rfl, rfl⟩ | exact ⟨rfl, rfl, ⟨rfl, rfl, rfl, rfl, rfl, rfl, rfl⟩⟩)
theorem test_14 {w : World} {s : Value} {a : Act} (ha : Fr s 0 0 a) (h7 : a.tmps.getD 7 undef = .int .i64 14) :
    (inn (bk 15)).wp Try.prog (fun e a' w' => e = .exit 2 ∧ w' = w ∧ Fr s 0 0 a') a w := by
  obtain ⟨f, rfl⟩ := ha.form
  clear ha
  rw [show f 7 = .int .i64 14 from h7]
  clear h7
  conv => enter [2]; whnf
  go_wp2_with fail
  (first | exact ⟨rfl, rfl, rfl, rfl, rfl, rfl, rfl⟩ | exact ⟨rfl, rfl, ⟨rfl, rfl, rfl, rfl, rfl, rfl, rfl⟩⟩)
theorem test_15 {w : World} {s : Value} {a : Act} (ha : Fr s 0 0 a) (h7 : a.tmps.getD 7 undef = .int .i64 15) :
    (inn (bk 15)).wp Try.prog (fun e a' w' => e = .exit 1 ∧ w' = w ∧ Fr s 0 0 a') a w := by
  obtain ⟨f, rfl⟩ := ha.form
  clear ha
  rw [show f 7 = .int .i64 15 from h7]
  clear h7
  conv => enter [2]; whnf
  go_wp2_with fail
  (first | exact ⟨rfl, rfl, rfl, rfl, rfl, rfl, rfl⟩ | exact ⟨rfl, rfl, ⟨rfl, rfl, rfl, rfl, rfl, rfl, rfl⟩⟩)
end Go.Proofs.Ytapekipfkghdhaa
