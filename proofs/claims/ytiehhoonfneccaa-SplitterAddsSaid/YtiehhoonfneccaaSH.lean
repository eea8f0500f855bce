/- Bytes that come in pieces come to what they come to at once; many joined frames: plain laws. No condition but that the numbers are of their kinds. -/
import Derived.Test.YtiehhoonfneccaaSF
namespace Go.Proofs.Ytiehhoonfneccaa
open Go.RowKit
theorem spl_fuel (ver : Int) : ∀ (k j : Nat) (l : List UInt8), l.length < k → l.length < j → spl ver k l = spl ver j l := by
  intro k
  induction k with
  | zero => intro j l h; omega
  | succ k ih =>
    intro j l h1 h2
    obtain ⟨j, rfl⟩ : ∃ i, j = i + 1 := ⟨j - 1, by omega⟩
    by_cases h9 : l.length < 9
    · rw [spl_stop_short _ _ _ h9, spl_stop_short _ _ _ h9]
    · by_cases he : erOf ver l = 0
      · by_cases hw : l.length < 9 + (hL l).toNat
        · rw [spl_wait ver _ l h1 h9 he hw, spl_wait ver _ l h2 h9 he hw]
        · rw [spl_one ver k l h9 he hw, spl_one ver j l h9 he hw, ih j _ (by rw [List.length_drop]; omega) (by rw [List.length_drop]; omega)]
      · rw [spl_err ver _ l (by omega) h1 h9 he rfl, spl_err ver _ l (by omega) h2 h9 he rfl]
/-- What bytes come to. -/
def sp (ver : Int) (l : List UInt8) : List Fr × List UInt8 × Int := spl ver (l.length + 1) l
theorem sp_is (ver : Int) (l : List UInt8) {k : Nat} (h : l.length < k) : spl ver k l = sp ver l := spl_fuel ver _ _ l h (Nat.lt_succ_self _)
theorem sp_nil (ver : Int) : sp ver [] = ([], [], 0) := spl_stop_short _ _ _ (by decide)
theorem bI_app (l m : List UInt8) (i : Nat) (h : i < l.length) : bI (l ++ m) i = bI l i := by
  unfold bI
  simp [List.getD, List.getElem?_append_left h]
theorem cut_app (l m : List UInt8) (i k : Nat) (h : i + k ≤ l.length) : ((l ++ m).drop i).take k = (l.drop i).take k := by
  rw [List.drop_append_of_le_length (by omega), List.take_append_of_le_length (by rw [List.length_drop]; omega)]
theorem hL_app (l m : List UInt8) (h : ¬ l.length < 9) : hL (l ++ m) = hL l := by unfold hL; rw [cut_app _ _ _ _ (by omega)]
theorem hS_app (l m : List UInt8) (h : ¬ l.length < 9) : hS (l ++ m) = hS l := by unfold hS; rw [cut_app _ _ _ _ (by omega)]
theorem getE_app (l m : List UInt8) (h : ¬ l.length < 9) : getE (l ++ m) = getE l := by
  unfold getE
  rw [if_neg h, if_neg (by rw [List.length_append]; omega), bI_app _ _ _ (by omega), bI_app _ _ _ (by omega), bI_app _ _ _ (by omega), hL_app _ _ h]
theorem erOf_app (ver : Int) (l m : List UInt8) (h : ¬ l.length < 9) : erOf ver (l ++ m) = erOf ver l := by
  unfold erOf
  rw [getE_app _ _ h, bI_app _ _ _ (by omega)]
theorem frOf_app (l m : List UInt8) (h : ¬ l.length < 9) (hw : ¬ l.length < 9 + (hL l).toNat) : frOf (l ++ m) = frOf l := by
  unfold frOf
  rw [bI_app _ _ _ (by omega), bI_app _ _ _ (by omega), bI_app _ _ _ (by omega), hL_app _ _ h, hS_app _ _ h, cut_app _ _ _ _ (by omega)]
theorem sp_short (ver : Int) (l : List UInt8) (h : l.length < 9) : sp ver l = ([], l, 0) := spl_stop_short _ _ _ h
theorem sp_err (ver : Int) (l : List UInt8) (h9 : ¬ l.length < 9) (he : ¬ erOf ver l = 0) : sp ver l = ([], [], erOf ver l) := spl_err _ _ _ (Nat.succ_pos _) (Nat.lt_succ_self _) h9 he rfl
theorem sp_wait (ver : Int) (l : List UInt8) (h9 : ¬ l.length < 9) (he : erOf ver l = 0) (hw : l.length < 9 + (hL l).toNat) : sp ver l = ([], l, 0) := spl_wait _ _ _ (Nat.lt_succ_self _) h9 he hw
theorem sp_one (ver : Int) (l : List UInt8) (h9 : ¬ l.length < 9) (he : erOf ver l = 0) (hw : ¬ l.length < 9 + (hL l).toNat) : sp ver l = (frOf l :: (sp ver (l.drop (9 + (hL l).toNat))).1, (sp ver (l.drop (9 + (hL l).toNat))).2) := by
  unfold sp
  rw [spl_one ver _ l h9 he hw, sp_is ver _ (k := l.length) (by rw [List.length_drop]; omega)]
  rfl
/-- What more bytes come to. -/
def spMore (ver : Int) (t : List Fr × List UInt8 × Int) (m : List UInt8) : List Fr × List UInt8 × Int := if t.2.2 = 0 then (t.1 ++ (sp ver (t.2.1 ++ m)).1, (sp ver (t.2.1 ++ m)).2) else t
theorem sp_append (ver : Int) (m : List UInt8) : ∀ (n : Nat) (l : List UInt8), l.length ≤ n → sp ver (l ++ m) = spMore ver (sp ver l) m := by
  intro n
  induction n with
  | zero =>
    intro l h
    obtain rfl : l = [] := List.eq_nil_of_length_eq_zero (by omega)
    rw [sp_nil]
    simp [spMore]
  | succ n ih =>
    intro l h
    by_cases h9 : l.length < 9
    · rw [sp_short _ _ h9]; simp [spMore]
    · by_cases he : erOf ver l = 0
      · by_cases hw : l.length < 9 + (hL l).toNat
        · rw [sp_wait _ _ h9 he hw]; simp [spMore]
        · have h9' : ¬ (l ++ m).length < 9 := by rw [List.length_append]; omega
          rw [sp_one _ _ h9 he hw, sp_one _ _ h9' (by rw [erOf_app _ _ _ h9]; exact he) (by rw [hL_app _ _ h9, List.length_append]; omega), frOf_app _ _ h9 hw, hL_app _ _ h9, List.drop_append_of_le_length (by omega), ih _ (by rw [List.length_drop]; omega)]
          unfold spMore
          by_cases hz : (sp ver (l.drop (9 + (hL l).toNat))).2.2 = 0
          · simp only [hz, if_true]; rfl
          · simp only [hz, if_false]
      · rw [sp_err _ _ h9 he, sp_err _ _ (by rw [List.length_append]; omega) (by rw [erOf_app _ _ _ h9]; exact he), erOf_app _ _ _ h9]
        simp [spMore, he]
theorem sp_app (ver : Int) (l m : List UInt8) : sp ver (l ++ m) = spMore ver (sp ver l) m := sp_append ver m _ l (Nat.le_refl _)
/-- The bytes that a frame's header and body are. -/
def frB (f : Fr) : List UInt8 := putH f.V f.F f.S f.O f.L ++ f.body
/-- A frame that may be. -/
def FrOk (ver : Int) (f : Fr) : Prop := f.V = ver ∧ 0 ≤ f.V ∧ f.V < 256 ∧ 0 ≤ f.F ∧ f.F < 256 ∧ -32768 ≤ f.S ∧ f.S < 32768 ∧ 0 ≤ f.O ∧ f.O < 256 ∧ f.L = f.body.length ∧ f.body.length ≤ 1048576 ∧ chk f.V f.F f.O f.body.length = 0
theorem frB_len (ver : Int) (f : Fr) : (frB f).length = 9 + f.body.length := by unfold frB; rw [List.length_append, putH_len]
theorem sp_put {ver : Int} {f : Fr} (h : FrOk ver f) (more : List UInt8) : sp ver (frB f ++ more) = (f :: (sp ver more).1, (sp ver more).2) := by
  obtain ⟨rfl, h1, h2, h3, h4, h5, h6, h7, h8, h9, h10, h11⟩ := h
  have hz := spl_put (more := more) h1 h2 h3 h4 h5 h6 h7 h8 h10 h11 ((frB f ++ more).length)
  have e : frB f ++ more = (putH f.V f.F f.S f.O f.body.length ++ f.body) ++ more := by unfold frB; rw [h9]
  have e2 : f = ⟨f.V, f.F, f.S, f.O, f.body.length, f.body⟩ := by cases f; simp only at h9; simp [h9]
  rw [← e, ← e2] at hz
  rw [← sp_is f.V (frB f ++ more) (k := (frB f ++ more).length + 1) (by omega), hz, sp_is f.V more (by rw [List.length_append, frB_len f.V]; omega)]
theorem sp_many {ver : Int} (more : List UInt8) : ∀ (fs : List Fr), (∀ f ∈ fs, FrOk ver f) → sp ver (fs.flatMap frB ++ more) = (fs ++ (sp ver more).1, (sp ver more).2)
  | [], _ => rfl
  | f :: fs, h => by
    rw [List.flatMap_cons, List.append_assoc, sp_put (h f (List.mem_cons_self)), sp_many more fs (fun g hg => h g (List.mem_cons_of_mem _ hg))]
    rfl
end Go.Proofs.Ytiehhoonfneccaa
