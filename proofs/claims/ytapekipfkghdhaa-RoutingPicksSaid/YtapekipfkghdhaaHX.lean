/- murmur.Hash: what it computes, of all bytes. No condition. -/
import Derived.Test.YtapekipfkghdhaaRX
namespace Go.Proofs.Ytapekipfkghdhaa
open Go.RowKit
def nh (h g k : Int) : Int := IntKind.u64.wrap (IntKind.u64.wrap (IntKind.u64.wrap (rl27 (xr h (fst k)) + g) * 5) + 1390208809)
def ng (g h m : Int) : Int := IntKind.u64.wrap (IntKind.u64.wrap (IntKind.u64.wrap (rl31 (xr g (snd m)) + h) * 5) + 944331445)
def sth (s : Int × Int) (l : List UInt8) : Int := nh s.1 s.2 (le (l.take 8))
/-- One block is laid over. -/
def step (s : Int × Int) (l : List UInt8) : Int × Int := (sth s l, ng s.2 (sth s l) (le ((l.drop 8).take 8)))
def st (l : List UInt8) : Nat → Int × Int
  | 0 => (0, 0)
  | t + 1 => step (st l t) (l.drop (16 * t))
def hX (l : List UInt8) : Int := xr (xr (st l (l.length / 16)).1 (kOf (l.drop (16 * (l.length / 16))))) (l.length : Int)
def hY (l : List UInt8) : Int := xr (xr (st l (l.length / 16)).2 (mOf (l.drop (16 * (l.length / 16))))) (l.length : Int)
def finA (x y : Int) : Int := IntKind.u64.wrap (mx (IntKind.u64.wrap (x + y)) + mx (IntKind.u64.wrap (y + IntKind.u64.wrap (x + y))))
def finB (x y : Int) : Int := IntKind.u64.wrap (mx (IntKind.u64.wrap (y + IntKind.u64.wrap (x + y))) + finA x y)
def lenV : Value → Nat
  | .slice _ n _ => n
  | _ => 0
set_option maxHeartbeats 800000 in
theorem hash_any {B : Nat} {A : Option Addr} {n c : Nat} {l : List UInt8} (w : World) (hl : BS w B A n c l) :
    Calls Try.prog 15 #[.slice A n c] w fun e w' => e = .returned (.tuple #[.int .u64 (finA (hX l) (hY l)), .int .u64 (finB (hX l) (hY l))]) ∧ w = w' := by
  have hlen := hl.len
  have hcap := hl.cap
  have hmx := hl.max
  unfold maxLen at hmx
  go_enter Try.func15, Try.ntmps15
  go_wp2_with fail
  go_loop [0, 4, 5] (fun b h g => ∃ t : Nat, 16 * t ≤ n ∧ h = .int .u64 (st l t).1 ∧ g = .int .u64 (st l t).2 ∧ ∃ A' c', b = .slice A' (n - 16 * t) c' ∧ BS w B A' (n - 16 * t) c' (l.drop (16 * t))) (fun b _ _ => lenV b)
  case atStart => exact ⟨0, by omega, rfl, rfl, A, c, rfl, by simpa using hl⟩
  case round =>
    obtain ⟨t, ht, rfl, rfl, A', c', rfl, hb⟩ := hrel
    by_cases h16 : 16 ≤ n - 16 * t
    · obtain ⟨b, o, rfl, hbB, hcell⟩ := hb.at_ (by omega)
      have hcap' := hb.cap
      have hm' := hb.max
      unfold maxLen at hm'
      have h8 := hb.upto (k := 8) (by omega)
      have h16f := hb.from_ (k := 8) (by omega)
      rw [if_neg (by omega)] at h16f
      have h9 := h16f.upto (k := 8) (by omega)
      simp only [Option.map_some, add_none] at h9
      have hF := hb.from_ (k := 16) (by omega)
      have H8 := Lib.hid h8
      have H9 := Lib.hid h9
      have HF := Lib.hid hF
      obtain ⟨N, hN⟩ : ∃ N, n - 16 * t = N := ⟨_, rfl⟩
      rw [hN] at h16 hcap' ⊢
      clear h8 h9 hF h16f hcell
      have hN2 : n - 16 * (t + 1) = N - 16 := by omega
      have ht2 : 16 * (t + 1) ≤ n := by omega
      have hd : (l.drop (16 * t)).drop 16 = l.drop (16 * (t + 1)) := by rw [List.drop_drop]; congr 1
      rw [hd, hN] at HF
      have HN := Lib.hid hN2
      have HT := Lib.hid ht2
      clear hN2 ht2 hd
      by_cases hc16 : c' = 16
      · subst hc16
        obtain rfl : N = 16 := by omega
        rw [if_pos rfl] at HF
        go_wp2_with fail
        refine (number_any _ H8.out (by omega)).mono ?_
        rintro e w1 ⟨rfl, rfl⟩
        go_wp2_with fail
        refine (fst_any _ _).mono ?_
        rintro e w1 ⟨rfl, rfl⟩
        go_wp2_with fail
        refine (rot27 _ _).mono ?_
        rintro e w1 ⟨rfl, rfl⟩
        go_wp2_with fail
        refine (number_any _ H9.out (by omega)).mono ?_
        rintro e w1 ⟨rfl, rfl⟩
        go_wp2_with fail
        refine (snd_any _ _).mono ?_
        rintro e w1 ⟨rfl, rfl⟩
        go_wp2_with fail
        refine (rot31 _ _).mono ?_
        rintro e w1 ⟨rfl, rfl⟩
        go_wp2_with fail
        refine ⟨⟨t + 1, HT.out, by simp only [st, step, sth, nh, xr], by simp only [st, step, sth, nh, ng, xr, List.drop_drop], some ⟨b, o, none⟩, 0, ?_, ?_⟩, ?_⟩
        · rw [HN.out]
        · rw [HN.out]; exact HF.out
        · simp [lenV]
      · rw [if_neg hc16] at HF
        simp only [Option.map_some, add_none] at HF
        go_wp2_with fail
        refine (number_any _ H8.out (by omega)).mono ?_
        rintro e w1 ⟨rfl, rfl⟩
        go_wp2_with fail
        refine (fst_any _ _).mono ?_
        rintro e w1 ⟨rfl, rfl⟩
        go_wp2_with fail
        refine (rot27 _ _).mono ?_
        rintro e w1 ⟨rfl, rfl⟩
        go_wp2_with fail
        refine (number_any _ H9.out (by omega)).mono ?_
        rintro e w1 ⟨rfl, rfl⟩
        go_wp2_with fail
        refine (snd_any _ _).mono ?_
        rintro e w1 ⟨rfl, rfl⟩
        go_wp2_with fail
        refine (rot31 _ _).mono ?_
        rintro e w1 ⟨rfl, rfl⟩
        go_wp2_with fail
        refine ⟨⟨t + 1, HT.out, by simp only [st, step, sth, nh, xr], by simp only [st, step, sth, nh, ng, xr, List.drop_drop], some ⟨b, o + 16, none⟩, c' - 16, ?_, ?_⟩, ?_⟩
        · rw [HN.out]
        · rw [HN.out]; exact HF.out
        · simp [lenV]; omega
    · obtain ⟨N, hN⟩ : ∃ N, n - 16 * t = N := ⟨_, rfl⟩
      have hmx' := hb.max
      have hcp' := hb.cap
      unfold maxLen at hmx'
      have HB := Lib.hid hb
      rw [hN] at h16 hb HB hcp' ⊢
      have hNt : N = n % 16 := by omega
      have htt : t = n / 16 := by omega
      have HT := Lib.hid htt
      clear hb hN htt hNt
      go_wp2_with fail
      refine (rest_any _ HB.out (by omega)).mono ?_
      rintro e w1 ⟨rfl, rfl⟩
      go_wp2_with fail
      refine (mixed_any _ _).mono ?_
      rintro e w1 ⟨rfl, rfl⟩
      go_wp2_with fail
      refine (mixed_any _ _).mono ?_
      rintro e w1 ⟨rfl, rfl⟩
      go_wp2_with fail
      go_ret2
      refine ⟨?_, rfl⟩
      simp only [hX, hY, finA, finB, xr, ← HT.out, hlen]
      rfl
end Go.Proofs.Ytapekipfkghdhaa
