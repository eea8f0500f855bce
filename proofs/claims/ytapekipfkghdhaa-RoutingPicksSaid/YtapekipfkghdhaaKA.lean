/- routing.Key's test, slices.IndexFunc and ContainsFunc at it. No condition. -/
import Derived.Test.YtapekipfkghdhaaBB
import Derived.Test.YtapekipfkghdhaaOD
namespace Go.Proofs.Ytapekipfkghdhaa
open Go.RowKit
theorem long_any {A : Option Addr} {n c : Nat} (w : World) : Calls Try.prog 41 #[.slice A n c] w fun e w' => e = .returned (.bool (decide ((65535 : Int) < n))) ∧ w = w' := by
  go_enter Try.func41, Try.ntmps41
  go_wp2_with fail
  go_ret
  exact ⟨rfl, rfl⟩
/-- Is a part too long? -/
def tooLong (ps : List Part) : Bool := ps.any fun p => decide ((65535 : Int) < p.n)
theorem tooLong_take (ps : List Part) (k : Nat) (h : k < ps.length) : tooLong (ps.take (k + 1)) = (tooLong (ps.take k) || decide ((65535 : Int) < ps[k].n)) := by
  rw [List.take_succ_eq_append_getElem h]
  simp only [tooLong, List.any_append, List.any_cons, List.any_nil, Bool.or_false]
theorem tooLong_of {ps : List Part} {k : Nat} {h : k < ps.length} (e : (65535 : Int) < ps[k].n) : tooLong ps = true := by
  simp only [tooLong, List.any_eq_true, decide_eq_true_eq]
  exact ⟨ps[k], List.getElem_mem h, e⟩
theorem idxf_any {B g o : Nat} {ps : List Part} {m c : Nat} (w : World) (hp : PartsO w B g o ps) (hm : m = ps.length) (hmc : m ≤ 9223372036854775807) :
    Calls Try.prog 49 #[.slice (some ⟨g, o, none⟩) m c, .func (.func 41) #[] #[]] w fun e w' => (∃ r, e = .returned (.int .i64 r) ∧ decide (0 ≤ r) = tooLong ps) ∧ w = w' := by
  subst hm
  go_enter Try.func49, Try.ntmps49
  go_wp2_with fail
  go_loop [8] (fun i => ∃ k : Nat, k ≤ ps.length ∧ i = .int .i64 k ∧ tooLong (ps.take k) = false) (fun i => ps.length - (intOf i).toNat)
  case atStart => exact ⟨0, Nat.zero_le _, rfl, rfl⟩
  case round =>
    obtain ⟨k, hk, rfl, hno⟩ := hrel
    by_cases hlt : k < ps.length
    · have hck := hp.cell k hlt
      by_cases he : (65535 : Int) < ps[k].n
      · have hy := Lib.hid (tooLong_of (h := hlt) he)
        have hdt : decide ((65535 : Int) < ps[k].n) = true := by simpa using he
        clear hno
        go_wp2_with fail
        refine (long_any _).mono ?_
        rintro e w' ⟨rfl, rfl⟩
        rw [hdt]
        go_wp2_with fail
        go_ret
        exact ⟨⟨_, rfl, by rw [hy.out]; simp⟩, rfl⟩
      · have hdf : decide ((65535 : Int) < ps[k].n) = false := by simpa using he
        have hn2 := tooLong_take ps k hlt
        rw [hno, hdf] at hn2
        have HN := Lib.hid hn2
        clear hn2 hno he
        go_wp2_with fail
        refine (long_any _).mono ?_
        rintro e w' ⟨rfl, rfl⟩
        rw [hdf]
        go_wp2_with fail
        exact ⟨⟨k + 1, by omega, by go_num, HN.out⟩, by simp [intOf]; omega⟩
    · obtain rfl : k = ps.length := by omega
      rw [List.take_length] at hno
      have HN := Lib.hid hno
      clear hno
      go_wp2_with fail
      go_ret
      exact ⟨⟨_, rfl, by rw [HN.out]; simp⟩, rfl⟩
theorem contf_any {B g o : Nat} {ps : List Part} {m c : Nat} (w : World) (hp : PartsO w B g o ps) (hm : m = ps.length) (hmc : m ≤ 9223372036854775807) :
    Calls Try.prog 40 #[.slice (some ⟨g, o, none⟩) m c, .func (.func 41) #[] #[]] w fun e w' => e = .returned (.bool (tooLong ps)) ∧ w = w' := by
  subst hm
  go_enter Try.func40, Try.ntmps40
  go_wp2_with fail
  refine (idxf_any _ hp rfl hmc).mono ?_
  rintro e w' ⟨⟨r, rfl, hr⟩, rfl⟩
  have HR := Lib.hid hr
  clear hr
  go_wp2_with fail
  go_ret
  exact ⟨ret_bool HR.out, rfl⟩
end Go.Proofs.Ytapekipfkghdhaa
