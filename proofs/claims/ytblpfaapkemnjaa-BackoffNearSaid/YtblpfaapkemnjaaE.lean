/- math/bits.Div64 by 100: its first result is the quotient. -/
import Derived.Test.YtblpfaapkemnjaaD
namespace Go.Proofs.Ytblpfaapkemnjaa
open Go.RowKit
set_option maxRecDepth 100000 in
theorem len64_100 (w : World) : Calls Try.prog 17 #[.int .u64 100] w fun e w' => e = .returned (.int .i64 7) ∧ w = w' := by
  go_enter Try.func17, Try.ntmps17
  go_wp2
  go_ret
  exact ⟨by kernel_rfl, rfl⟩
theorem lz64_100 (w : World) : Calls Try.prog 16 #[.int .u64 100] w fun e w' => e = .returned (.int .i64 57) ∧ w = w' := by
  go_enter Try.func16, Try.ntmps16
  go_wp2_with fail
  refine (len64_100 _).mono ?_
  rintro e w' ⟨rfl, rfl⟩
  go_wp2_with fail
  go_ret
  exact ⟨rfl, rfl⟩
theorem div64_0 (lo : Int) (w : World) (l0 : 0 ≤ lo) (l1 : lo < 18446744073709551616) :
    Calls Try.prog 13 #[.int .u64 0, .int .u64 lo, .int .u64 100] w fun e w' => ∃ r q, e = .returned (.tuple #[.int .u64 (lo / 100), .int .u64 r]) ∧ w.drewN q = w' := by
  go_enter Try.func13, Try.ntmps13
  go_wp2_with fail
  go_quiet (fail)
  go_wp2_with fail
  go_ret2
  exact ⟨_, _, rfl, rfl⟩
theorem low_mask : bits .and .u64 14411518807585587200 4294967295 = 0 := by rw [and_low32 _ (by omega) (by omega)]; rfl
theorem un_form (hi lo : Int) (h0 : 0 ≤ hi) (h1 : hi < 100) (l0 : 0 ≤ lo) (l1 : lo < 18446744073709551616) :
    bits .or .u64 (hi * 144115188075855872) (lo / 128) = hi * 144115188075855872 + lo / 128 := by
  rw [u64_or _ _ (by omega) (by omega) (by omega) (by omega), nat_join 57 _ _ (by omega) (by omega)]
  omega
theorem ul_form (lo : Int) : IntKind.u64.wrap (lo * 144115188075855872) = lo % 128 * 144115188075855872 := by
  rw [IntKind.wrap_u64]; omega
theorem t_form (un a q r : Int) (h : r = un - q * 3355443200) (r0 : 0 ≤ r) (r1 : r < 3355443200) (a0 : 0 ≤ a) (a1 : a < 4294967296) :
    IntKind.u64.wrap (IntKind.u64.wrap (IntKind.u64.wrap (un * 4294967296) + a) - IntKind.u64.wrap (q * 14411518807585587200)) = r * 4294967296 + a := by
  simp only [IntKind.wrap_u64]
  omega
theorem quot_form (hi lo un ul a q r t p : Int) 
    (hu : un = hi * 144115188075855872 + lo / 128) (hl : ul = lo % 128 * 144115188075855872) (ha : a = ul / 4294967296) (hq : q = un / 3355443200) (hr : r = un - q * 3355443200)
    (ht : t = r * 4294967296 + a) (hp : p = t / 3355443200) : q * 4294967296 + p = (hi * 18446744073709551616 + lo) / 100 := by omega
set_option maxHeartbeats 800000 in
theorem div64_pos (hi lo : Int) (w : World) (h0 : 0 < hi) (h1 : hi < 100) (l0 : 0 ≤ lo) (l1 : lo < 18446744073709551616) :
    Calls Try.prog 13 #[.int .u64 hi, .int .u64 lo, .int .u64 100] w fun e w' => ∃ r q, e = .returned (.tuple #[.int .u64 ((hi * 18446744073709551616 + lo) / 100), .int .u64 r]) ∧ w.drewN q = w' := by
  have hne : (hi == 0) = false := by simp; omega
  have e0 := low_mask
  obtain ⟨un, e1, u0, u1, HU⟩ : ∃ un, bits .or .u64 (hi * 144115188075855872) (lo / 128) = un ∧ 0 ≤ un ∧ un < 14411518807585587200 ∧ Hid (un = hi * 144115188075855872 + lo / 128) :=
    ⟨_, un_form hi lo (by omega) h1 l0 l1, by omega, by omega, Lib.hid rfl⟩
  obtain ⟨ul, e2, v0, v1, HL⟩ : ∃ ul, IntKind.u64.wrap (lo * 144115188075855872) = ul ∧ 0 ≤ ul ∧ ul < 18446744073709551616 ∧ Hid (ul = lo % 128 * 144115188075855872) :=
    ⟨_, ul_form lo, by omega, by omega, Lib.hid rfl⟩
  obtain ⟨a, e3, a0, a1, HA⟩ : ∃ a, ul / 4294967296 = a ∧ 0 ≤ a ∧ a < 4294967296 ∧ Hid (a = ul / 4294967296) := ⟨_, rfl, by omega, by omega, Lib.hid rfl⟩
  have e4 : bits .and .u64 ul 4294967295 = 0 := by rw [and_low32 ul v0 v1]; have := HL.out; omega
  obtain ⟨q, e5, q0, q1, HQ⟩ : ∃ q, un / 3355443200 = q ∧ 0 ≤ q ∧ q < 4294967296 ∧ Hid (q = un / 3355443200) := ⟨_, rfl, by omega, by omega, Lib.hid rfl⟩
  have q2 : q * 3355443200 ≤ un := by have := HQ.out; omega
  obtain ⟨r, e6, r0, r1, HR⟩ : ∃ r, un - q * 3355443200 = r ∧ 0 ≤ r ∧ r < 3355443200 ∧ Hid (r = un - q * 3355443200) := ⟨_, rfl, by omega, by have := HQ.out; omega, Lib.hid rfl⟩
  obtain ⟨t, e7, t0, t1, HT⟩ : ∃ t, IntKind.u64.wrap (IntKind.u64.wrap (IntKind.u64.wrap (un * 4294967296) + a) - IntKind.u64.wrap (q * 14411518807585587200)) = t ∧ 0 ≤ t ∧ t < 14411518807585587200 ∧ Hid (t = r * 4294967296 + a) := by
    refine ⟨_, t_form un a q r HR.out r0 r1 a0 a1, by omega, by omega, Lib.hid rfl⟩
  obtain ⟨p, e8, p0, p1, HP⟩ : ∃ p, t / 3355443200 = p ∧ 0 ≤ p ∧ p < 4294967296 ∧ Hid (p = t / 3355443200) := ⟨_, rfl, by omega, by omega, Lib.hid rfl⟩
  have p2 : p * 3355443200 ≤ t := by have := HP.out; omega
  obtain ⟨s, e9, s0, s1⟩ : ∃ s, t - p * 3355443200 = s ∧ 0 ≤ s ∧ s < 3355443200 := ⟨_, rfl, by omega, by have := HP.out; omega⟩
  obtain ⟨z, HZ, z0, z1⟩ : ∃ z, Hid (q * 4294967296 + p = z ∧ z = (hi * 18446744073709551616 + lo) / 100) ∧ 0 ≤ z ∧ z < 18446744073709551616 :=
    ⟨_, Lib.hid ⟨rfl, quot_form hi lo un ul a q r t p HU.out HL.out HA.out HQ.out HR.out HT.out HP.out⟩, by omega, by omega⟩
  have HW := Lib.hid (And.intro e5 e8)
  go_enter Try.func13, Try.ntmps13
  go_wp2_with fail
  refine (lz64_100 _).mono ?_
  rintro e w' ⟨rfl, rfl⟩
  go_wp2_with fail
  refine wp_loop_once ?_
  go_wp2_with fail
  refine wp_loop_once ?_
  go_wp2_with fail
  go_ret2
  rw [HZ.out.2.symm.trans HZ.out.1.symm]
  exact ⟨_, 0, rfl, rfl⟩
theorem div64_any (hi lo : Int) (w : World) (h0 : 0 ≤ hi) (h1 : hi < 100) (l0 : 0 ≤ lo) (l1 : lo < 18446744073709551616) :
    Calls Try.prog 13 #[.int .u64 hi, .int .u64 lo, .int .u64 100] w fun e w' => ∃ r q, e = .returned (.tuple #[.int .u64 ((hi * 18446744073709551616 + lo) / 100), .int .u64 r]) ∧ w.drewN q = w' := by
  by_cases h : hi = 0
  · subst h
    refine (div64_0 lo w l0 l1).mono ?_
    rintro e w' ⟨r, q, rfl, rfl⟩
    exact ⟨r, q, by rw [show (0 : Int) * 18446744073709551616 + lo = lo from by omega], rfl⟩
  · exact div64_pos hi lo w (by omega) h1 l0 l1
end Go.Proofs.Ytblpfaapkemnjaa
