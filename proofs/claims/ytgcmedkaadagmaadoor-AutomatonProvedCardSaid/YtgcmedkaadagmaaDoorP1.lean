/- Plain words: rules of one glyph each. -/
import Derived.Test.YtgcmedkaadagmaaDoorB3
import Derived.Test.YtgcmedkaadagmaaDoorAU8
import Derived.Test.YtgcmedkaadagmaaDoorV3
namespace Go.Proofs.YtgcmedkaadagmaaDoor

def manyO (i : Nat) : Rul := ⟨[], [[(i : Int)]], [], [], [], 0⟩
def manyR (n : Nat) : List Rul := (List.range n).map manyO
theorem many_len (n : Nat) : (manyR n).length = n := by simp [manyR]
theorem many_at {n i : Nat} (h : i < n) : (manyR n)[i]? = some (manyO i) := by simp [manyR, h]
theorem many_succ (n : Nat) : manyR (n + 1) = manyR n ++ [manyO n] := by simp [manyR, List.range_succ]
theorem many_sets (n : Nat) : setsL (manyR n) = (List.range n).map fun (i : Nat) => [(i : Int)] := by
 induction n with
 | zero => rfl
 | succ n ih =>
  rw [many_succ]
  unfold setsL at ih ⊢
  rw [List.flatMap_append, ih, List.range_succ, List.map_append]
  rfl
theorem many_sm {n : Nat} (h : n ≤ 64) : SmB (manyR n) := by
 refine ⟨by rw [many_len]; exact h, by rw [many_sets]; simp; omega, fun s hs => ?_⟩
 rw [many_sets] at hs
 obtain ⟨i, _, rfl⟩ := List.mem_map.1 hs
 simp
theorem many_begins {n i : Nat} (w : List Int) (hi : i < n) : saysB false (manyR n) ((i : Int) :: w) = 2 ^ i := by
 apply Nat.eq_of_testBit_eq
 intro j
 unfold saysB
 rw [bitsOf_bit, Nat.testBit_two_pow, many_len]
 by_cases hj : j < n
 ·rw [many_at hj]
  simp only [hj, decide_true, Bool.true_and]
  unfold hasD rowD manyO
  simp [beginsB]
  by_cases e : i = j
  ·simp [e]
  ·have : ¬ (i : Int) = (j : Int) := by omega
   simp [e, this]
 ·have : ¬ i = j := by omega
  simp [hj, this]
theorem many_all {n j : Nat} (hj : j < n) : (saysB true (manyR n) []).testBit j = true := by
 unfold saysB
 rw [bitsOf_bit, many_len, many_at hj]
 simp [hj, hasD, rowD, manyO, beginsB]
theorem firstZ_two {i : Nat} (h : i < 64) : firstZ (2 ^ i) = (i : Int) := by
 unfold firstZ
 cases hl : leastA (2 ^ i) with
 | none =>
  have := leastA_none hl (Nat.pow_lt_pow_right (by omega) h)
  have := Nat.two_pow_pos i
  omega
 | some k =>
  obtain ⟨_, h2, _⟩ := leastA_some hl
  rw [Nat.testBit_two_pow] at h2
  have : i = k := by simpa using h2
  rw [this]
theorem many_first {n i : Nat} (hi : i < n) (hn : n ≤ 64) (w : List Int) : firstZ (saysB true (manyR n) [] &&& saysB false (manyR n) ((i : Int) :: w)) = (i : Int) := by
 have e : saysB true (manyR n) [] &&& saysB false (manyR n) ((i : Int) :: w) = 2 ^ i := by
  rw [many_begins w hi]
  apply Nat.eq_of_testBit_eq
  intro j
  rw [Nat.testBit_and, Nat.testBit_two_pow]
  by_cases e : i = j
  ·subst e; rw [many_all hi]; simp
  ·simp [e]
 rw [e]
 exact firstZ_two (by omega)
section
variable {n : Nat}
theorem many_rows (j : Nat) (hj : j < n) : (rowsF (kindF false) (manyR n)).getD j [] = [[(j : Int)]] := by
 unfold rowsF
 rw [List.getD_eq_getElem?_getD, List.getElem?_map, many_at hj]; rfl
theorem many_next1 (c : Int) : nextM (rowsF (kindF false) (manyR n)) (clsL (manyR n) n) 1 c = 0 := by
 apply Nat.eq_of_testBit_eq
 intro j
 unfold nextM
 rw [bitsOf_bit, Nat.zero_testBit, rowsF_len, many_len]
 by_cases hj : j < n
 ·rw [many_rows j hj]; simp
 ·simp [hj]
theorem many_next0 {i : Nat} {c : Int} (hi : i < n) (hc : isCls (clsL (manyR n) n) (i : Int) c = true) : nextM (rowsF (kindF false) (manyR n)) (clsL (manyR n) n) 0 c = 2 ^ i := by
 apply Nat.eq_of_testBit_eq
 intro j
 rw [nextM_bit (cls_ok false (manyR n) n) hc, Nat.testBit_two_pow, rowsF_len, many_len]
 by_cases hj : j < n
 ·rw [many_rows j hj]
  simp [hj]
  by_cases e : i = j
  ·simp [e]
  ·have : ¬ (i : Int) = (j : Int) := by omega
   simp [e, this]
 ·have : ¬ i = j := by omega
  simp [hj, this]
theorem many_hv {i : Nat} (hi : i < n) : hvF (kindF false) (manyR n) (manyR n).length &&& 2 ^ i = 2 ^ i := by
 apply Nat.eq_of_testBit_eq
 intro j
 rw [Nat.testBit_and, Nat.testBit_two_pow, hvF_bit, many_len]
 by_cases e : i = j
 ·subst e
  rw [many_at hi]
  simp [hi, kindF, foreR, manyO]
 ·simp [e]
theorem many_nx0 {i c : Nat} (hi : i < n) (hc : isCls (clsL (manyR n) n) (i : Int) (c : Int) = true) : nxP (rowsF (kindF false) (manyR n)) (clsL (manyR n) n) (0, hvF (kindF false) (manyR n) (manyR n).length) c = some (1, 2 ^ i) := by
 unfold nxP
 dsimp only
 rw [many_next0 hi hc, many_hv hi, if_neg (by have := Nat.two_pow_pos i; omega)]
def manyM (n : Nat) : List (Nat × Nat) := (0, hvF (kindF false) (manyR n) (manyR n).length) :: (List.range n).map fun i => (1, 2 ^ i)
theorem manyM_len : (manyM n).length = n + 1 := by simp [manyM]
theorem manyM_nodup : (manyM n).Nodup := by
 unfold manyM
 rw [List.nodup_cons]
 refine ⟨fun h => ?_, ?_⟩
 ·obtain ⟨i, _, e⟩ := List.mem_map.1 h
  injection e with e; omega
 ·have key : ∀ k, ((List.range k).map fun i => ((1, 2 ^ i) : Nat × Nat)).Nodup := by
   intro k
   induction k with
   | zero => simp
   | succ k ih =>
    rw [List.range_succ, List.map_append, List.nodup_append]
    refine ⟨ih, by simp, fun a ha b hb e => ?_⟩
    obtain ⟨i, hi, rfl⟩ := List.mem_map.1 ha
    rw [List.mem_range] at hi
    simp at hb
    rw [hb] at e
    injection e with _ e
    have := Nat.pow_lt_pow_right (a := 2) (by omega) hi
    omega
  exact key n
theorem manyM_closed : ∀ p ∈ manyM n, ∀ c, c < KL (manyR n) n → ∀ q, nxP (rowsF (kindF false) (manyR n)) (clsL (manyR n) n) p c = some q → q ∈ manyM n := fun p hp c hc q hq => by
 unfold manyM at hp ⊢
 rcases List.mem_cons.1 hp with rfl | hp
 ·have hr := (repG_ok (manyR n) n).2 c hc
  obtain ⟨i, hi, hin, _⟩ := isCls_cls hr
  rw [hi] at hr
  rw [many_nx0 hin hr] at hq
  injection hq with hq
  exact List.mem_cons_of_mem _ (List.mem_map.2 ⟨i, List.mem_range.2 hin, hq⟩)
 ·obtain ⟨i, _, rfl⟩ := List.mem_map.1 hp
  unfold nxP at hq
  dsimp only at hq
  rw [many_next1, Nat.and_zero, if_pos rfl] at hq
  cases hq
theorem many_half (hn : n ≤ 64) : ∃ x, halfL (kindF false) (manyR n) n = some x ∧ x.1.length = n + 1 := by
 obtain ⟨x, hx, hsub⟩ := allL_some (manyM_closed (n := n)) (by rw [manyM_len]; omega) (p0 := (0, hvF (kindF false) (manyR n) (manyR n).length)) (by unfold manyM; exact List.mem_cons_self ..)
 have hst := half_ok (f := kindF false) (rs := manyR n) (n := n) (x := x) hx
 refine ⟨x, hx, ?_⟩
 have h1 := nodup_len hst.nd hsub
 have h2 : ∀ p ∈ manyM n, p ∈ x.2 := fun p hp => by
  unfold manyM at hp
  rcases List.mem_cons.1 hp with rfl | hp
  ·exact List.mem_of_getElem? hst.h0
  ·obtain ⟨i, hi, rfl⟩ := List.mem_map.1 hp
   rw [List.mem_range] at hi
   obtain ⟨c, hc, hck, hcc⟩ := cls_at (clsL_gly (manyR n) n) (g := (i : Int)) (by omega) (by rw [clsL_len]; omega)
   have hl0 := (List.getElem?_eq_some_iff.1 hst.h0).1
   obtain ⟨row, hrow⟩ := at_some x.1 0 (by have := hst.len; omega)
   obtain ⟨hrl, hrs⟩ := hst.all 0 _ row hst.h0 hrow
   rcases hrs c (by omega) with ⟨e, _⟩ | ⟨q, j, e, e2, _⟩
   ·rw [many_nx0 hi hcc] at e; cases e
   ·rw [many_nx0 hi hcc] at e
    injection e with e
    rw [e]; exact List.mem_of_getElem? e2
 have h3 := nodup_len manyM_nodup h2
 rw [manyM_len] at h1 h3
 rw [hst.len]; omega
theorem many_halfB : ∃ y, halfL (kindF true) (manyR n) n = some y := by
 have hb : ∀ j, (rowsF (kindF true) (manyR n)).getD j [] = [] := fun j => by
  unfold rowsF
  rw [List.getD_eq_getElem?_getD, List.getElem?_map]
  by_cases hj : j < n
  ·rw [many_at hj]; rfl
  ·rw [List.getElem?_eq_none (by rw [many_len]; omega)]; rfl
 obtain ⟨y, hy, _⟩ := allL_some (nx := nxP (rowsF (kindF true) (manyR n)) (clsL (manyR n) n)) (K := KL (manyR n) n) (M := [(0, hvF (kindF true) (manyR n) (manyR n).length)]) (fun p _ c _ q hq => by
  exfalso
  obtain ⟨_, h2, h3, _⟩ := nxP_some hq
  rw [h3] at h2
  obtain ⟨b, hb2⟩ := ne_zero_bit h2
  rw [Nat.testBit_and, Bool.and_eq_true] at hb2
  have hb3 := hb2.2
  unfold nextM at hb3
  rw [bitsOf_bit, hb b] at hb3
  simp at hb3) (by simp) (List.mem_singleton.2 rfl)
 exact ⟨y, hy⟩
theorem many_auto (hn : n ≤ 64) : ∃ a, autoL (manyR n) n = some a ∧ a.fore.length = n + 1 := by
 obtain ⟨x, hx, hl⟩ := many_half hn
 obtain ⟨y, hy⟩ := many_halfB (n := n)
 refine ⟨⟨clsL (manyR n) n, x.1, y.1, x.2.map (endsP (rowsF (kindF false) (manyR n))), y.2.map (endsP (rowsF (kindF true) (manyR n)))⟩, ?_, hl⟩
 unfold autoL
 rw [show halfL foreR (manyR n) n = some x from hx, show halfL backR (manyR n) n = some y from hy]
 rfl
end

end Go.Proofs.YtgcmedkaadagmaaDoor
