/- Plain words: what is built of a lookup's rules; its classes. -/
import Derived.Test.YtkmdakampkfioaaGreatDoorV12
import Derived.Test.YtkmdakampkfioaaGreatDoorS6W10
namespace Go.Proofs.YtkmdakampkfioaaGreatDoor
def setsL (rs : List Rul) : List (List Int) := rs.flatMap fun r => r.back ++ (r.inn ++ r.ahead)
def clsL (rs : List Rul) (n : Nat) : List Int := S6.partL (setsL rs) n
def KL (rs : List Rul) (n : Nat) : Nat := maxC (clsL rs n) (clsL rs n).length
def halfL (f : Rul → List (List Int) × Bool) (rs : List Rul) (n : Nat) : Option (List (List Int) × List (Nat × Nat)) := allL (nxP (rowsF f rs) (clsL rs n)) (KL rs n) (0, hvF f rs rs.length)
def autoL (rs : List Rul) (n : Nat) : Option Au :=
 match halfL foreR rs n with
 | none => none
 | some x =>
  match halfL backR rs n with
  | none => none
  | some y => some ⟨clsL rs n, x.1, y.1, x.2.map (endsP (rowsF foreR rs)), y.2.map (endsP (rowsF backR rs))⟩
def buildL (F : Fnt) (k : Int) : Option Au × Int :=
 match lkAt F k with
 | none => (none, 1)
 | some lk =>
  if F.gly.length = 0 ∨ 65536 < F.gly.length then (none, 1)
  else if 64 < lk.rules.length then (none, 2)
  else match autoL lk.rules F.gly.length with
   | some a => (some a, 0)
   | none => (none, 2)
theorem setsL_snoc {rs : List Rul} {n : Nat} {r : Rul} (h : rs[n]? = some r) : setsL (rs.take (n + 1)) = setsL (rs.take n) ++ (r.back ++ (r.inn ++ r.ahead)) := by
 unfold setsL;rw [List.take_add_one, h, List.flatMap_append];simp
theorem setsL_take (rs : List Rul) (i : Nat) : (setsL (rs.take i)).length ≤ (setsL rs).length := by
 have h : setsL rs = setsL (rs.take i) ++ setsL (rs.drop i) := by
  unfold setsL;rw [← List.flatMap_append, List.take_append_drop]
 rw [h, List.length_append]; omega
theorem clsL_len (rs : List Rul) (n : Nat) : (clsL rs n).length = n := S6.partF_length _ _
theorem clsL_at (rs : List Rul) {n i : Nat} (h : i < n) : (clsL rs n)[i]? = some (S6.classOf (S6.sig (setsL rs)) i : Int) := S6.partF_at _ h
theorem classOf_lt {α : Type} [DecidableEq α] (f : Nat → α) {n i : Nat} (h : i < n) : S6.classOf f i < n := by
 have h1 := S6.class_lt f (show i < i + 1 by omega);have h2 := S6.nF_le f (i + 1);omega
theorem clsL_mem {rs : List Rul} {n : Nat} {c : Int} (h : c ∈ clsL rs n) : 0 ≤ c ∧ c + 1 ≤ n := by
 obtain ⟨i, hi⟩ := List.mem_iff_getElem?.1 h;have hl := (List.getElem?_eq_some_iff.1 hi).1;rw [clsL_len] at hl;rw [clsL_at rs hl] at hi;injection hi with hi;have := classOf_lt (S6.sig (setsL rs)) hl;omega
theorem maxC_le {cls : List Int} {b : Nat} (h : ∀ c ∈ cls, c + 1 ≤ (b : Int)) : ∀ k, maxC cls k ≤ max b 1
 | 0 => by simp [maxC]
 | k + 1 => by
  have h1 := maxC_le h k;rw [maxC];have h2 : (cls.getD k 0 + 1).toNat ≤ max b 1 := by
   rw [List.getD_eq_getElem?_getD];cases hc : cls[k]? with
   | none => simp; omega
   | some c => have := h c (List.mem_of_getElem? hc); simp; omega
  omega
theorem maxC_ge {cls : List Int} : ∀ (k i : Nat) (c : Int), i < k → cls[i]? = some c → c + 1 ≤ (maxC cls k : Int)
 | 0, _, _, h, _ => absurd h (by omega)
 | k + 1, i, c, h, hc => by
  rw [maxC];by_cases e : i = k
  ·subst e;rw [getD_of hc]; omega
  ·have := maxC_ge k i c (by omega) hc;omega
theorem KL_le (rs : List Rul) (n : Nat) : KL rs n ≤ max n 1 := maxC_le (fun _ hc => (clsL_mem hc).2) _
theorem clsL_gly (rs : List Rul) (n : Nat) : GlyOK (clsL rs n) (KL rs n) := fun i c hi => by
 have h1 := clsL_mem (List.mem_of_getElem? hi);have h2 := maxC_ge (clsL rs n).length i c (List.getElem?_eq_some_iff.1 hi).1 hi;exact ⟨h1.1, by unfold KL; omega⟩
theorem isCls_cls {rs : List Rul} {n : Nat} {g c : Int} (h : isCls (clsL rs n) g c = true) : ∃ i : Nat, g = (i : Int) ∧ i < n ∧ c = (S6.classOf (S6.sig (setsL rs)) i : Int) := by
 unfold isCls at h;simp only [Bool.and_eq_true, decide_eq_true_eq, beq_iff_eq] at h;obtain ⟨⟨h1, h2⟩, h3⟩ := h;rw [clsL_len] at h2;refine ⟨g.toNat, by omega, by omega, ?_⟩;rw [List.getD_eq_getElem?_getD, clsL_at rs (by omega)] at h3;exact h3.symm
theorem clsL_ok {rs : List Rul} {rows : List (List (List Int))} (n : Nat) (h : ∀ row ∈ rows, ∀ s ∈ row, s ∈ setsL rs) : ClsOK rows (clsL rs n) := fun g g' _ h1 h2 row hr s hs => by
 obtain ⟨i, rfl, _, e1⟩ := isCls_cls h1;obtain ⟨j, rfl, _, e2⟩ := isCls_cls h2;have e : S6.classOf (S6.sig (setsL rs)) i = S6.classOf (S6.sig (setsL rs)) j := by omega
 rw [S6.class_eq, S6.sig_eq] at e;have := e s (h row hr s hs);rw [Bool.eq_iff_iff]; simpa using this
theorem foreR_sets {rs : List Rul} : ∀ row ∈ rowsF foreR rs, ∀ s ∈ row, s ∈ setsL rs := fun row hr s hs => by
 obtain ⟨r, hq, rfl⟩ := List.mem_map.1 hr;unfold foreR at hs;split at hs
 ·cases hs
 ·exact List.mem_flatMap.2 ⟨r, hq, List.mem_append_right _ hs⟩
theorem backR_sets {rs : List Rul} : ∀ row ∈ rowsF backR rs, ∀ s ∈ row, s ∈ setsL rs := fun row hr s hs => by
 obtain ⟨r, hq, rfl⟩ := List.mem_map.1 hr;exact List.mem_flatMap.2 ⟨r, hq, List.mem_append_left _ hs⟩
theorem flat_le {r : Rul} : ∀ {rs : List Rul}, r ∈ rs → r.back.length + (r.inn.length + r.ahead.length) ≤ (setsL rs).length
 | [], h => by cases h
 | x :: rs, h => by
  unfold setsL;rw [List.flatMap_cons, List.length_append, List.length_append, List.length_append];rcases List.mem_cons.1 h with rfl | h
  ·omega
  ·have := flat_le h;unfold setsL at this;omega
theorem rowsF_len {f : Rul → List (List Int) × Bool} (rs : List Rul) : (rowsF f rs).length = rs.length := by simp [rowsF]
theorem fore_len {rs : List Rul} : ∀ row ∈ rowsF foreR rs, row.length ≤ (setsL rs).length := fun row hr => by
 obtain ⟨r, hq, rfl⟩ := List.mem_map.1 hr;have := flat_le hq;unfold foreR;split
 ·simp
 ·simp; omega
theorem back_len {rs : List Rul} : ∀ row ∈ rowsF backR rs, row.length ≤ (setsL rs).length := fun row hr => by
 obtain ⟨r, hq, rfl⟩ := List.mem_map.1 hr;have := flat_le hq;unfold backR;simp; omega
structure SmB (rs : List Rul) : Prop where
 n : rs.length ≤ 64
 s : (setsL rs).length ≤ 100
 l : ∀ s ∈ setsL rs, s.length ≤ 1000
theorem SmB.one {rs : List Rul} (h : SmB rs) : ∀ r ∈ rs, r.inn.length + r.ahead.length ≤ 1000000 := fun r hr => by
 have := flat_le hr;have := h.s;omega
end Go.Proofs.YtkmdakampkfioaaGreatDoor
