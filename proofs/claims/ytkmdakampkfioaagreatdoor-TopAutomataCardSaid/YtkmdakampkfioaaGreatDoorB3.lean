/- Plain words: the document's automaton is the one that is built; what is built, of any row of glyphs; when an automaton does what rules say. -/
import Derived.Test.YtkmdakampkfioaaGreatDoorB1
import Derived.Test.YtkmdakampkfioaaGreatDoorAU8
namespace Go.Proofs.YtkmdakampkfioaaGreatDoor
section
variable {α : Type} [DecidableEq α] (f : Nat → α)
end
def rowD (back : Bool) (r : Rul) : List (List Int) := if back then r.back else r.inn ++ r.ahead
def hasD (back : Bool) (r : Rul) : Bool := back || decide (0 < r.inn.length)
def kindF (back : Bool) : Rul → List (List Int) × Bool := if back then backR else foreR
theorem kindF_has (back : Bool) (r : Rul) : (kindF back r).2 = hasD back r := by
 unfold kindF hasD;cases back
 ·unfold foreR;by_cases h : r.inn.length = 0
  ·simp [h]
  ·simp [h]; omega
 ·rfl
theorem kindF_row {back : Bool} {r : Rul} (h : hasD back r = true) : (kindF back r).1 = rowD back r := by
 unfold hasD at h;unfold kindF rowD;cases back
 ·unfold foreR;simp only [Bool.false_or, decide_eq_true_eq] at h;simp [show ¬ r.inn.length = 0 by omega]
 ·rfl
theorem kindF_sets (back : Bool) {rs : List Rul} : ∀ row ∈ rowsF (kindF back) rs, ∀ s ∈ row, s ∈ setsL rs := by
 cases back
 ·exact foreR_sets
 ·exact backR_sets
theorem hvF_bit (f : Rul → List (List Int) × Bool) (rs : List Rul) (n i : Nat) : (hvF f rs n).testBit i = (decide (i < n) && match rs[i]? with | some r => (f r).2 | none => false) := bitsOf_bit _ _ _
theorem hv_lt (back : Bool) (rs : List Rul) : hvF (kindF back) rs rs.length < 2 ^ (rowsF (kindF back) rs).length := by rw [rowsF_len]; exact bitsOf_lt _ _
theorem cls_ok (back : Bool) (rs : List Rul) (n : Nat) : ClsOK (rowsF (kindF back) rs) (clsL rs n) := clsL_ok n (kindF_sets back)
def saysB (back : Bool) (rs : List Rul) (w : List Int) : Nat := bitsOf (fun i => match rs[i]? with | some r => hasD back r && beginsB (rowD back r) w | none => false) rs.length
theorem told_says (back : Bool) (rs : List Rul) (n : Nat) (w : List Int) (hw : ∀ g ∈ w, 0 ≤ g ∧ g < (n : Int)) : runB (stepP (rowsF (kindF back) rs) (clsL rs n)) (endsP (rowsF (kindF back) rs)) (0, hvF (kindF back) rs rs.length) w = saysB back rs w := by
 apply bitsOf_ext;intro i;rw [told_begins (cls_ok back rs n) (clsL_gly rs n) w (by rw [clsL_len]; exact hw) 0 _ i (fun h => ?_), hvF_bit]
 ·by_cases hi : i < rs.length
  ·obtain ⟨r, hr⟩ := at_some rs i hi;rw [hr];simp only [hi, decide_true, Bool.true_and, List.drop_zero];rw [kindF_has];cases hh : hasD back r with
   | false => simp
   | true =>
    simp only [Bool.true_and];unfold rowsF;rw [List.getD_eq_getElem?_getD, List.getElem?_map, hr];simp [kindF_row hh]
  ·simp [hi]
 ·rw [hvF_bit] at h;simp only [Bool.and_eq_true, decide_eq_true_eq] at h;rw [rowsF_len];exact ⟨h.1, Nat.zero_le _⟩
theorem half_ok {f : Rul → List (List Int) × Bool} {rs : List Rul} {n : Nat} {x : List (List Int) × List (Nat × Nat)} (h : halfL f rs n = some x) : StOK (nxP (rowsF f rs) (clsL rs n)) (KL rs n) (0, hvF f rs rs.length) x.2.length x.2 x.1 := allL_ok h
theorem autoL_some {rs : List Rul} {n : Nat} {a : Au} (h : autoL rs n = some a) : ∃ x y, halfL (kindF false) rs n = some x ∧ halfL (kindF true) rs n = some y ∧ a = ⟨clsL rs n, x.1, y.1, x.2.map (endsP (rowsF (kindF false) rs)), y.2.map (endsP (rowsF (kindF true) rs))⟩ := by
 unfold autoL at h;cases hx : halfL foreR rs n with
 | none => rw [hx] at h; cases h
 | some x =>
  rw [hx] at h;dsimp only at h;cases hy : halfL backR rs n with
  | none => rw [hy] at h; cases h
  | some y =>
   rw [hy] at h;injection h with h;exact ⟨x, y, hx, hy, h.symm⟩
theorem halfD_built {back : Bool} {rs : List Rul} {n : Nat} {x : List (List Int) × List (Nat × Nat)} (h : halfL (kindF back) rs n = some x) : HalfOK (rowsF (kindF back) rs) (clsL rs n) (0, hvF (kindF back) rs rs.length) (clsL rs n) x.1 (x.2.map (endsP (rowsF (kindF back) rs))) n := by
 have := halfOK_built (half_ok h) (clsL_gly rs n);rwa [clsL_len] at this
def DoesL (rs : List Rul) (n : Nat) (a : Au) : Prop :=
 HalfOK (rowsF (kindF false) rs) (clsL rs n) (0, hvF (kindF false) rs rs.length) a.cls a.fore a.fe n ∧ HalfOK (rowsF (kindF true) rs) (clsL rs n) (0, hvF (kindF true) rs rs.length) a.cls a.back a.be n
theorem doesL_built {rs : List Rul} {n : Nat} {a : Au} (h : autoL rs n = some a) : DoesL rs n a := by
 obtain ⟨x, y, hx, hy, rfl⟩ := autoL_some h;exact ⟨halfD_built hx, halfD_built hy⟩
theorem doesL_iff {rs : List Rul} {n : Nat} {a : Au} : DoesL rs n a ↔ ∀ w, (∀ g ∈ w, 0 ≤ g ∧ g < (n : Int)) → foreA a w = saysB false rs w ∧ backA a w = saysB true rs w := by
 unfold DoesL;rw [halfOK_iff, halfOK_iff];constructor
 ·rintro ⟨h1, h2⟩ w hw;rw [foreA_run, backA_run, ← told_says false rs n w hw, ← told_says true rs n w hw];exact ⟨(h1 w hw).symm, (h2 w hw).symm⟩
 ·intro h;refine ⟨fun w hw => ?_, fun w hw => ?_⟩
  ·rw [told_says false rs n w hw, ← (h w hw).1, foreA_run]
  ·rw [told_says true rs n w hw, ← (h w hw).2, backA_run]
end Go.Proofs.YtkmdakampkfioaaGreatDoor
