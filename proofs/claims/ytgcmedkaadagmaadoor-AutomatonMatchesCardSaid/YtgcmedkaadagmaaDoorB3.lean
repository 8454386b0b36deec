/- Plain words: the document's automaton is the one that is built; what is built, of any row of glyphs; when an automaton does what rules say. -/
import Derived.Test.YtgcmedkaadagmaaDoorB1
import Derived.Test.YtgcmedkaadagmaaDoorAU8
namespace Go.Proofs.YtgcmedkaadagmaaDoor

/-- The first glyph of each class. -/
def repF {α : Type} [DecidableEq α] (f : Nat → α) (n : Nat) : List Int := ((List.range n).filter fun j => decide (S6.firstOf f j = j)).map fun (j : Nat) => (j : Int)
section
variable {α : Type} [DecidableEq α] (f : Nat → α)
theorem repF_len (n : Nat) : (repF f n).length = S6.nF f n := by unfold repF S6.nF; rw [List.length_map]
theorem repF_succ (n : Nat) : repF f (n + 1) = if (S6.classOf f n : Int) = (repF f n).length then repF f n ++ [(n : Int)] else repF f n := by
 rw [repF_len]
 unfold repF
 rw [List.range_succ, List.filter_append, List.map_append]
 by_cases h : S6.firstOf f n = n
 ·rw [if_pos (by rw [S6.class_new h])]
  simp [h]
 ·have h1 : S6.classOf f n < S6.nF f n := by
   unfold S6.classOf
   exact S6.nF_lt f (by have := S6.fo_le f n; omega) (S6.fo_fo f n)
  rw [if_neg (by omega)]
  simp [h]
theorem repF_at : ∀ (n c : Nat), c < S6.nF f n → ∃ j : Nat, j < n ∧ (repF f n)[c]? = some (j : Int) ∧ S6.classOf f j = c
 | 0, c, h => absurd h (by rw [S6.nF_zero]; omega)
 | n + 1, c, h => by
  rw [repF_succ]
  rw [S6.nF_succ] at h
  by_cases e : S6.firstOf f n = n
  ·rw [if_pos e] at h
   rw [if_pos (by rw [repF_len, S6.class_new e])]
   by_cases hc : c < S6.nF f n
   ·obtain ⟨j, h1, h2, h3⟩ := repF_at n c hc
    exact ⟨j, by omega, by rw [List.getElem?_append_left (List.getElem?_eq_some_iff.1 h2).1]; exact h2, h3⟩
   ·have hc2 : c = S6.nF f n := by omega
    refine ⟨n, by omega, ?_, by rw [S6.class_new e]; exact hc2.symm⟩
    rw [List.getElem?_append_right (by rw [repF_len]; omega), repF_len, hc2, Nat.sub_self]; rfl
  ·rw [if_neg e] at h
   obtain ⟨j, h1, h2, h3⟩ := repF_at n c (by omega)
   have h4 : S6.classOf f n < S6.nF f n := by
    unfold S6.classOf
    exact S6.nF_lt f (by have := S6.fo_le f n; omega) (S6.fo_fo f n)
   rw [if_neg (by rw [repF_len]; omega)]
   exact ⟨j, by omega, h2, h3⟩
end
theorem maxC_nF (rs : List Rul) (n : Nat) : ∀ k, k ≤ n → maxC (clsL rs n) k = S6.nF (S6.sig (setsL rs)) k
 | 0, _ => rfl
 | k + 1, h => by
  rw [maxC, maxC_nF rs n k (by omega), getD_of (clsL_at rs (by omega)), S6.nF_succ]
  by_cases e : S6.firstOf (S6.sig (setsL rs)) k = k
  ·rw [if_pos e, S6.class_new e]; omega
  ·have h1 : S6.classOf (S6.sig (setsL rs)) k < S6.nF (S6.sig (setsL rs)) k := by
    unfold S6.classOf
    exact S6.nF_lt _ (by have := S6.fo_le (S6.sig (setsL rs)) k; omega) (S6.fo_fo _ k)
   rw [if_neg e]; omega
theorem KL_nF (rs : List Rul) (n : Nat) : KL rs n = S6.nF (S6.sig (setsL rs)) n := by
 unfold KL; rw [clsL_len]; exact maxC_nF rs n n (Nat.le_refl _)
def repG (rs : List Rul) (n : Nat) : List Int := repF (S6.sig (setsL rs)) n
theorem repG_ok (rs : List Rul) (n : Nat) : RepOK (clsL rs n) (repG rs n) (KL rs n) := by
 refine ⟨by rw [KL_nF]; exact repF_len _ _, fun c hc => ?_⟩
 rw [KL_nF] at hc
 obtain ⟨j, h1, h2, h3⟩ := repF_at _ n c hc
 unfold repG
 rw [getD_of h2]
 unfold isCls
 rw [Int.toNat_natCast, getD_of (clsL_at rs h1), clsL_len, h3]
 simp [h1]
/-- The document's rows. -/
def rowD (back : Bool) (r : Rul) : List (List Int) := if back then r.back else r.inn ++ r.ahead
def hasD (back : Bool) (r : Rul) : Bool := back || decide (0 < r.inn.length)
def rowsD (back : Bool) (rs : List Rul) : List (List (List Int)) := rs.map (rowD back)
def kindF (back : Bool) : Rul → List (List Int) × Bool := if back then backR else foreR
theorem kindF_has (back : Bool) (r : Rul) : (kindF back r).2 = hasD back r := by
 unfold kindF hasD
 cases back
 ·unfold foreR
  by_cases h : r.inn.length = 0
  ·simp [h]
  ·simp [h]; omega
 ·rfl
theorem kindF_row {back : Bool} {r : Rul} (h : hasD back r = true) : (kindF back r).1 = rowD back r := by
 unfold hasD at h
 unfold kindF rowD
 cases back
 ·unfold foreR
  simp only [Bool.false_or, decide_eq_true_eq] at h
  simp [show ¬ r.inn.length = 0 by omega]
 ·rfl
theorem kindF_sets (back : Bool) {rs : List Rul} : ∀ row ∈ rowsF (kindF back) rs, ∀ s ∈ row, s ∈ setsL rs := by
 cases back
 ·exact foreR_sets
 ·exact backR_sets
theorem kind_len (back : Bool) {rs : List Rul} : ∀ row ∈ rowsF (kindF back) rs, row.length ≤ (setsL rs).length := by
 cases back
 ·exact fore_len
 ·exact back_len
theorem hvF_bit (f : Rul → List (List Int) × Bool) (rs : List Rul) (n i : Nat) : (hvF f rs n).testBit i = (decide (i < n) && match rs[i]? with | some r => (f r).2 | none => false) := bitsOf_bit _ _ _
/-- All rules of a list have a row. -/
def AllHas (back : Bool) (rs : List Rul) (l : List Nat) : Prop := ∀ i ∈ l, ∃ r, rs[i]? = some r ∧ hasD back r = true
theorem rowsD_at {back : Bool} {rs : List Rul} {l : List Nat} (h : AllHas back rs l) {i : Nat} (hi : i ∈ l) : (rowsD back rs).getD i [] = (rowsF (kindF back) rs).getD i [] := by
 obtain ⟨r, h1, h2⟩ := h i hi
 unfold rowsD rowsF
 rw [List.getD_eq_getElem?_getD, List.getD_eq_getElem?_getD, List.getElem?_map, List.getElem?_map, h1]
 exact (kindF_row h2).symm
theorem behindD_rows {back : Bool} {rs : List Rul} {m : Nat} {l : List Nat} (h : AllHas back rs l) (g : Int) : behindD (rowsD back rs) (m, l) g = behindD (rowsF (kindF back) rs) (m, l) g := by
 unfold behindD
 refine Prod.ext rfl ?_
 refine List.filter_congr fun i hi => ?_
 rw [rowsD_at h hi]
theorem endsDL_rows {back : Bool} {rs : List Rul} {m : Nat} : ∀ {l : List Nat} (acc : Nat), AllHas back rs l → endsDL (rowsD back rs) m l acc = endsDL (rowsF (kindF back) rs) m l acc
 | [], _, _ => rfl
 | i :: l, acc, h => by
  have h1 := endsDL_rows (m := m) (l := l) (if ((rowsF (kindF back) rs).getD i []).length = m then acc + 2 ^ i else acc) (fun j hj => h j (List.mem_cons_of_mem _ hj))
  unfold endsDL at h1 ⊢
  rw [List.foldl_cons, List.foldl_cons, rowsD_at h (List.mem_cons_self ..), h1]
theorem endsD_rows {back : Bool} {rs : List Rul} {m : Nat} {l : List Nat} (h : AllHas back rs l) : endsD (rowsD back rs) (m, l) = endsD (rowsF (kindF back) rs) (m, l) := endsDL_rows 0 h
theorem behindD_has {back : Bool} {rs : List Rul} {rows : List (List (List Int))} {s : Nat × List Nat} (h : AllHas back rs s.2) (g : Int) : AllHas back rs (behindD rows s g).2 := fun i hi => h i (List.mem_filter.1 hi).1
/-- The first state. -/
def firstD (back : Bool) (rs : List Rul) : Nat × List Nat := (0, (List.range rs.length).filter fun i => match rs[i]? with | some r => hasD back r | none => false)
theorem firstD_has (back : Bool) (rs : List Rul) : AllHas back rs (firstD back rs).2 := fun i hi => by
 unfold firstD at hi
 have h := (List.mem_filter.1 hi).2
 cases hr : rs[i]? with
 | none => rw [hr] at h; cases h
 | some r => rw [hr] at h; exact ⟨r, rfl, h⟩
theorem firstD_phi (back : Bool) (rs : List Rul) : firstD back rs = phi (rowsF (kindF back) rs).length (0, hvF (kindF back) rs rs.length) := by
 unfold firstD phi
 refine Prod.ext rfl ?_
 rw [rowsF_len]
 unfold listOf
 refine List.filter_congr fun i hi => ?_
 rw [List.mem_range] at hi
 dsimp only
 rw [hvF_bit]
 cases hr : rs[i]? with
 | none => simp
 | some r => simp [hi, kindF_has]
theorem hv_lt (back : Bool) (rs : List Rul) : hvF (kindF back) rs rs.length < 2 ^ (rowsF (kindF back) rs).length := by rw [rowsF_len]; exact bitsOf_lt _ _
theorem cls_ok (back : Bool) (rs : List Rul) (n : Nat) : ClsOK (rowsF (kindF back) rs) (clsL rs n) := clsL_ok n (kindF_sets back)
/-- The document's states are the code's. -/
theorem allD_half (back : Bool) (rs : List Rul) (n : Nat) : allL (nxD (rowsF (kindF back) rs) (repG rs n)) (KL rs n) (firstD back rs) = (halfL (kindF back) rs n).map fun r => (r.1, r.2.map (phi (rowsF (kindF back) rs).length)) := by
 rw [firstD_phi]
 exact allD_eq (cls_ok back rs n) (repG_ok rs n) (hv_lt back rs)
/-- What the rules say, of any row of glyphs. -/
def saysB (back : Bool) (rs : List Rul) (w : List Int) : Nat := bitsOf (fun i => match rs[i]? with | some r => hasD back r && beginsB (rowD back r) w | none => false) rs.length
theorem told_says (back : Bool) (rs : List Rul) (n : Nat) (w : List Int) (hw : ∀ g ∈ w, 0 ≤ g ∧ g < (n : Int)) : runB (stepP (rowsF (kindF back) rs) (clsL rs n)) (endsP (rowsF (kindF back) rs)) (0, hvF (kindF back) rs rs.length) w = saysB back rs w := by
 apply bitsOf_ext
 intro i
 rw [told_begins (cls_ok back rs n) (clsL_gly rs n) w (by rw [clsL_len]; exact hw) 0 _ i (fun h => ?_), hvF_bit]
 ·by_cases hi : i < rs.length
  ·obtain ⟨r, hr⟩ := at_some rs i hi
   rw [hr]
   simp only [hi, decide_true, Bool.true_and, List.drop_zero]
   rw [kindF_has]
   cases hh : hasD back r with
   | false => simp
   | true =>
    simp only [Bool.true_and]
    unfold rowsF
    rw [List.getD_eq_getElem?_getD, List.getElem?_map, hr]
    simp [kindF_row hh]
  ·simp [hi]
 ·rw [hvF_bit] at h
  simp only [Bool.and_eq_true, decide_eq_true_eq] at h
  rw [rowsF_len]
  exact ⟨h.1, Nat.zero_le _⟩
/-- What was built tells what the rules say. -/
theorem half_ok {f : Rul → List (List Int) × Bool} {rs : List Rul} {n : Nat} {x : List (List Int) × List (Nat × Nat)} (h : halfL f rs n = some x) : StOK (nxP (rowsF f rs) (clsL rs n)) (KL rs n) (0, hvF f rs rs.length) x.2.length x.2 x.1 := allL_ok h
theorem autoL_some {rs : List Rul} {n : Nat} {a : Au} (h : autoL rs n = some a) : ∃ x y, halfL (kindF false) rs n = some x ∧ halfL (kindF true) rs n = some y ∧ a = ⟨clsL rs n, x.1, y.1, x.2.map (endsP (rowsF (kindF false) rs)), y.2.map (endsP (rowsF (kindF true) rs))⟩ := by
 unfold autoL at h
 cases hx : halfL foreR rs n with
 | none => rw [hx] at h; cases h
 | some x =>
  rw [hx] at h
  dsimp only at h
  cases hy : halfL backR rs n with
  | none => rw [hy] at h; cases h
  | some y =>
   rw [hy] at h
   injection h with h
   exact ⟨x, y, hx, hy, h.symm⟩
theorem halfD_built {back : Bool} {rs : List Rul} {n : Nat} {x : List (List Int) × List (Nat × Nat)} (h : halfL (kindF back) rs n = some x) : HalfOK (rowsF (kindF back) rs) (clsL rs n) (0, hvF (kindF back) rs rs.length) (clsL rs n) x.1 (x.2.map (endsP (rowsF (kindF back) rs))) n := by
 have := halfOK_built (half_ok h) (clsL_gly rs n)
 rwa [clsL_len] at this
/-- An automaton does what rules say (of a font of n glyphs). -/
def DoesL (rs : List Rul) (n : Nat) (a : Au) : Prop :=
 HalfOK (rowsF (kindF false) rs) (clsL rs n) (0, hvF (kindF false) rs rs.length) a.cls a.fore a.fe n ∧ HalfOK (rowsF (kindF true) rs) (clsL rs n) (0, hvF (kindF true) rs rs.length) a.cls a.back a.be n
theorem doesL_built {rs : List Rul} {n : Nat} {a : Au} (h : autoL rs n = some a) : DoesL rs n a := by
 obtain ⟨x, y, hx, hy, rfl⟩ := autoL_some h
 exact ⟨halfD_built hx, halfD_built hy⟩
theorem doesL_iff {rs : List Rul} {n : Nat} {a : Au} : DoesL rs n a ↔ ∀ w, (∀ g ∈ w, 0 ≤ g ∧ g < (n : Int)) → foreA a w = saysB false rs w ∧ backA a w = saysB true rs w := by
 unfold DoesL
 rw [halfOK_iff, halfOK_iff]
 constructor
 ·rintro ⟨h1, h2⟩ w hw
  rw [foreA_run, backA_run, ← told_says false rs n w hw, ← told_says true rs n w hw]
  exact ⟨(h1 w hw).symm, (h2 w hw).symm⟩
 ·intro h
  refine ⟨fun w hw => ?_, fun w hw => ?_⟩
  ·rw [told_says false rs n w hw, ← (h w hw).1, foreA_run]
  ·rw [told_says true rs n w hw, ← (h w hw).2, backA_run]
theorem built_says {rs : List Rul} {n : Nat} {a : Au} (h : autoL rs n = some a) (w : List Int) (hw : ∀ g ∈ w, 0 ≤ g ∧ g < (n : Int)) : foreA a w = saysB false rs w ∧ backA a w = saysB true rs w := doesL_iff.1 (doesL_built h) w hw

end Go.Proofs.YtgcmedkaadagmaaDoor
