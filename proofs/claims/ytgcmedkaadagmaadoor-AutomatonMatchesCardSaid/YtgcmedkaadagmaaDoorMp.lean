/- Plain: of the items that a lookup sees, its automaton tells the rule that matches. -/
import Derived.Test.YtgcmedkaadagmaaDoorB3
import Derived.Test.YtgcmedkaadagmaaDoorV3
namespace Go.Proofs.YtgcmedkaadagmaaDoor
open Go.RowKit Go.Shelf
theorem upL_split (s : Nat → Bool) {n p : Nat} (h : p ≤ n) : upL s n 0 = upL s p 0 ++ upL s n p := by
 unfold upL
 rw [← List.filter_append]
 congr 1
 have h1 := List.range'_append_1 (s := 0) (m := p) (n := n - p)
 rw [Nat.zero_add] at h1
 rw [Nat.sub_zero, Nat.sub_zero, h1]
 congr 1
 omega
theorem dnL_rev (s : Nat → Bool) : ∀ p, dnL s p = (upL s p 0).reverse
 | 0 => by rw [upL_end (Nat.le_refl _)]; rfl
 | p + 1 => by
  rw [upL_split s (Nat.le_succ p), upL_step (Nat.lt_succ_self p), upL_end (Nat.le_refl _), List.reverse_append, ← dnL_rev s p, dnL]
  split <;> rfl
theorem seen_at {s : Nat → Bool} {n k p : Nat} (h : (upL s n 0)[k]? = some p) : (upL s n 0).take k = upL s p 0 ∧ (upL s n 0).drop k = upL s n p ∧ p < n ∧ s p = true := by
 obtain ⟨_, h1, h2⟩ := upL_mem.1 (List.mem_of_getElem? h)
 have hs := upL_split s (Nat.le_of_lt h1)
 have h3 := upL_yes h1 h2
 have hk : k = (upL s p 0).length := by
  rw [hs] at h
  rcases Nat.lt_trichotomy k (upL s p 0).length with h4 | h4 | h4
  ·rw [List.getElem?_append_left h4] at h
   have := (upL_mem.1 (List.mem_of_getElem? h)).2.1
   omega
  ·exact h4
  ·rw [List.getElem?_append_right (Nat.le_of_lt h4), h3] at h
   obtain ⟨q, hq⟩ : ∃ q, k - (upL s p 0).length = q + 1 := ⟨k - (upL s p 0).length - 1, by omega⟩
   rw [hq, List.getElem?_cons_succ] at h
   have := (upL_mem.1 (List.mem_of_getElem? h)).1
   omega
 rw [hs, hk]
 exact ⟨List.take_left, List.drop_left, h1, h2⟩
theorem inSets_begins (run : List Itm) : ∀ (ss : List (List Int)) (ps : List Nat), inSets run ss ps = beginsB ss (ps.map (gAt run))
 | [], _ => by rw [inSets, beginsB]
 | s :: ss, [] => by rw [inSets, List.map_nil, beginsB]
 | s :: ss, p :: ps => by rw [inSets, List.map_cons, beginsB, inSets_begins run ss ps]
theorem begins_app : ∀ (a b : List (List Int)) (w : List Int), beginsB (a ++ b) w = (beginsB a w && beginsB b (w.drop a.length))
 | [], b, w => by rw [List.nil_append, beginsB]; simp
 | s :: a, b, [] => by rw [List.cons_append, beginsB, beginsB]; rfl
 | s :: a, b, g :: w => by rw [List.cons_append, beginsB, beginsB, begins_app a b w, List.length_cons, List.drop_succ_cons, Bool.and_assoc]
theorem begins_le : ∀ {r : List (List Int)} {w : List Int}, beginsB r w = true → r.length ≤ w.length
 | [], _, _ => Nat.zero_le _
 | _ :: _, [], h => by rw [beginsB] at h; cases h
 | _ :: r, _ :: w, h => by
  rw [beginsB, Bool.and_eq_true] at h
  have := begins_le h.2
  simp only [List.length_cons]
  omega
theorem fits_begins (run : List Itm) (r : Rul) (fo ba : List Nat) : fits run r fo ba = ((hasD false r && beginsB (rowD false r) (fo.map (gAt run))) && (hasD true r && beginsB (rowD true r) (ba.map (gAt run)))) := by
 have h1 : hasD false r = !r.inn.isEmpty := by
  unfold hasD
  cases r.inn <;> simp
 have h2 : hasD true r = true := rfl
 have h3 : rowD false r = r.inn ++ r.ahead := rfl
 have h4 : rowD true r = r.back := rfl
 rw [h1, h2, h3, h4, begins_app, Bool.true_and]
 unfold fits
 rw [inSets_begins, inSets_begins, inSets_begins, List.map_drop]
 rw [Bool.eq_iff_iff]
 simp only [Bool.and_eq_true, decide_eq_true_eq]
 constructor
 ·rintro ⟨⟨⟨a, _⟩, _⟩, b, c, d⟩
  exact ⟨⟨a, b, c⟩, d⟩
 ·rintro ⟨⟨a, b, c⟩, d⟩
  have l1 := begins_le b
  have l2 := begins_le c
  have l3 := begins_le d
  rw [List.length_map] at l1 l3
  rw [List.length_drop, List.length_map] at l2
  exact ⟨⟨⟨a, by omega⟩, l3⟩, b, c, d⟩
theorem firstR_off (p : Rul → Bool) : ∀ (rs : List Rul) (n : Nat), match firstR p rs n with
  | some (m, r) => ∃ j, m = n + j ∧ rs[j]? = some r ∧ p r = true ∧ ∀ (i : Nat), i < j → ∀ (q : Rul), rs[i]? = some q → p q = false
  | none => ∀ (i : Nat) (q : Rul), rs[i]? = some q → p q = false
 | [], n => by rw [firstR]; intro i q h; simp at h
 | r :: rs, n => by
  rw [firstR]
  by_cases hp : p r = true
  ·rw [if_pos hp]
   exact ⟨0, rfl, rfl, hp, fun i hi => absurd hi (by omega)⟩
  ·rw [if_neg hp]
   have ih := firstR_off p rs (n + 1)
   have hp' : p r = false := by simpa using hp
   generalize firstR p rs (n + 1) = o at ih ⊢
   cases o with
   | none =>
    intro i q h
    cases i with
    | zero => rw [List.getElem?_cons_zero] at h; injection h with h; rw [← h]; exact hp'
    | succ i => exact ih i q (by rw [List.getElem?_cons_succ] at h; exact h)
   | some x =>
    obtain ⟨m, r'⟩ := x
    obtain ⟨j, h1, h2, h3, h4⟩ := ih
    refine ⟨j + 1, by omega, by rw [List.getElem?_cons_succ]; exact h2, h3, fun i hi q hq => ?_⟩
    cases i with
    | zero => rw [List.getElem?_cons_zero] at hq; injection hq with hq; rw [← hq]; exact hp'
    | succ i => exact h4 i (by omega) q (by rw [List.getElem?_cons_succ] at hq; exact hq)
def ruleZ (o : Option (Nat × List Nat)) : Int := match o with | some (m, _) => (m : Int) | none => -1
theorem first_rule {p : Rul → Bool} {rs : List Rul} {x : Nat} (hx : x < 2 ^ 64) (hb : ∀ i, x.testBit i = match rs[i]? with | some r => p r | none => false) : firstZ x = match firstR p rs 0 with | some (m, _) => (m : Int) | none => -1 := by
 have h := firstR_off p rs 0
 unfold firstZ
 generalize firstR p rs 0 = o at h ⊢
 cases hl : leastA x with
 | none =>
  have h0 := leastA_none hl hx
  cases o with
  | none => rfl
  | some y =>
   obtain ⟨m, r⟩ := y
   obtain ⟨j, _, h2, h3, _⟩ := h
   have h4 := hb j
   rw [h2, h0, Nat.zero_testBit] at h4
   dsimp only at h4
   rw [h3] at h4
   cases h4
 | some i =>
  obtain ⟨_, h2, h3⟩ := leastA_some hl
  rw [hb] at h2
  cases hr : rs[i]? with
  | none => rw [hr] at h2; cases h2
  | some q =>
   rw [hr] at h2
   dsimp only at h2
   cases o with
   | none => rw [h i q hr] at h2; cases h2
   | some y =>
    obtain ⟨m, r⟩ := y
    obtain ⟨j, e, h4, h5, h6⟩ := h
    have hij : i = j := by
     rcases Nat.lt_trichotomy i j with h7 | h7 | h7
     ·rw [h6 i h7 q hr] at h2; cases h2
     ·exact h7
     ·have h8 := h3 j h7
      rw [hb, h4] at h8
      dsimp only at h8
      rw [h5] at h8
      cases h8
    show (i : Int) = (m : Int)
    omega
theorem match_first {F : Fnt} {lk : Lk} {run : List Itm} {k p : Nat} {a : Au} (hau : autoL lk.rules F.gly.length = some a) (h64 : lk.rules.length ≤ 64) (hg : ∀ i, i < run.length → 0 ≤ gAt run i ∧ gAt run i < (F.gly.length : Int)) (hS : (upL (seenB F lk.ign run) run.length 0)[k]? = some p) :
  firstZ (backA a ((((upL (seenB F lk.ign run) run.length 0).take k).reverse).map (gAt run)) &&& foreA a (((upL (seenB F lk.ign run) run.length 0).drop k).map (gAt run))) = ruleZ (matchL F lk run (p : Int) []) := by
 obtain ⟨e1, e2, hp, hs⟩ := seen_at hS
 have r1 : ∀ g ∈ (upL (seenB F lk.ign run) run.length p).map (gAt run), 0 ≤ g ∧ g < (F.gly.length : Int) := fun g hgm => by
  obtain ⟨i, hi, rfl⟩ := List.mem_map.1 hgm
  exact hg i (upL_mem.1 hi).2.1
 have r2 : ∀ g ∈ (dnL (seenB F lk.ign run) p).map (gAt run), 0 ≤ g ∧ g < (F.gly.length : Int) := fun g hgm => by
  obtain ⟨i, hi, rfl⟩ := List.mem_map.1 hgm
  exact hg i (by have := (dnL_mem.1 hi).1; omega)
 rw [e1, e2, ← dnL_rev, (built_says hau _ r1).1, (built_says hau _ r2).2, Nat.and_comm]
 have hbeg : begL F lk.ign run (p : Int) [] = true := by
  unfold begL
  rw [Int.toNat_natCast, hs, show decide (0 ≤ (p : Int)) = true by simp, show decide ((p : Int) < (run.length : Int)) = true by simp; exact hp]
  rfl
 have hm : ruleZ (matchL F lk run (p : Int) []) = match firstR (fun r => fits run r (upL (seenB F lk.ign run) run.length p) (dnL (seenB F lk.ign run) p)) lk.rules 0 with | some (m, _) => (m : Int) | none => -1 := by
  unfold ruleZ matchL
  rw [if_pos hbeg, Int.toNat_natCast]
  unfold foreL backL
  generalize firstR _ lk.rules 0 = o
  cases o with
  | none => rfl
  | some y => rfl
 rw [hm]
 refine first_rule ?_ (fun i => ?_)
 ·exact Nat.lt_of_le_of_lt Nat.and_le_left (Nat.lt_of_lt_of_le (bitsOf_lt _ _) (Nat.pow_le_pow_right (by omega) h64))
 ·unfold saysB
  rw [Nat.testBit_and, bitsOf_bit, bitsOf_bit]
  cases hr : lk.rules[i]? with
  | none => simp
  | some r =>
   have hl : i < lk.rules.length := (List.getElem?_eq_some_iff.1 hr).1
   dsimp only
   rw [fits_begins, show decide (i < lk.rules.length) = true by simpa using hl, Bool.true_and, Bool.true_and]
end Go.Proofs.YtgcmedkaadagmaaDoor
