/- Words: blocks of rows that a call makes. -/
import Derived.Test.YtgcmedkaadagmaaDoorL6
import Derived.Deep.DeepCutAuto
namespace Go.Proofs.YtgcmedkaadagmaaDoor
open Go.RowKit Go.Shelf Go.Maps

theorem uc_len1 (xs : List Nat) : (uc xs).length = xs.length * 1 := by simp [uc]
theorem ic_take_len {xs : List Int} {n m k : Nat} (h : xs.length = n) (hm : m = min n k) : (ic (xs.take k)).length = m * 1 := by rw [ic_len, List.length_take]; omega
theorem uc_take_len {xs : List Nat} {n m k : Nat} (h : xs.length = n) (hm : m = min n k) : (uc (xs.take k)).length = m * 1 := by rw [uc_len1, List.length_take]; omega
theorem take_min {α : Type} (xs : List α) {n k : Nat} (h : xs.length = n) : xs.take k = xs.take (min n k) := by
 by_cases hk : k ≤ n
 ·rw [Nat.min_eq_right hk]
 ·rw [Nat.min_eq_left (by omega), List.take_of_length_le (by omega), List.take_of_length_le (by omega)]

theorem Ow.ne_new {e k : Nat} {w : World} {base n c : Nat} {A : Option Addr} {cs : List Value} (h : Ow e k w base A n c cs) : ∀ b, A.map (·.block) = some b → (some (⟨w.heap.size, 0, none⟩ : Addr)).map (·.block) ≠ some b := fun b q1 q2 => by
 have q3 := (h.blk b q1).2.1
 injection q2 with q2
 dsimp only at q2
 omega
theorem ne_symm {A B : Option Addr} (h : ∀ b, A.map (·.block) = some b → B.map (·.block) ≠ some b) : ∀ b, B.map (·.block) = some b → A.map (·.block) ≠ some b := fun b q1 q2 => h b q2 q1
theorem ne_app {A A' B : Option Addr} {s : Nat} (h : ∀ b, A.map (·.block) = some b → B.map (·.block) ≠ some b) (hat : A'.map (·.block) = A.map (·.block) ∨ A'.map (·.block) = some s) (hB : ∀ b, B.map (·.block) = some b → b < s) : ∀ b, A'.map (·.block) = some b → B.map (·.block) ≠ some b := fun b q1 q2 => by
 rcases hat with e | e
 ·exact h b (by rw [← e]; exact q1) q2
 ·rw [e] at q1
  injection q1 with q1
  have := hB b q2
  omega
theorem rd_block {w : World} {base n c : Nat} {A : Option Addr} {xs : List Int} {D : Nat → Prop} (h : Ow 3 1 w base A n c (ic xs)) (hD : ∀ b, A.map (·.block) = some b → D b) : Rd w D A n xs := by
 have hr := h.rd
 refine ⟨hr.1, fun hn => ?_⟩
 obtain ⟨b, o, e, _, hc⟩ := hr.2 hn
 exact ⟨b, o, e, hD b (by rw [e]; rfl), hc⟩
theorem rdU_block {w : World} {base n c k : Nat} {A : Option Addr} {xs : List Nat} {D : Nat → Prop} (h : Ow 50 1 w base A n c (uc (xs.take k))) (hs : ∀ x ∈ xs, x < 18446744073709551616) (hD : ∀ b, A.map (·.block) = some b → D b) : RdU w D A n (xs.take k) :=
 h.rdU (fun x hx => hs x (List.mem_of_mem_take hx)) D (fun b e => hD b (by rw [e]; rfl))

end Go.Proofs.YtgcmedkaadagmaaDoor
