/- Walks: Same, cut. -/
import Derived.Test.YtdacfcfgikllpaaW1
namespace Go.Proofs.Ytdacfcfgikllpaa
open Go.RowKit

theorem drN (w : World) (a b : Nat) : ∃ k, (w.drewN a).drewN b = w.drewN k := ⟨a + b, by simp⟩
theorem take_ne {xs ys : List Int} (k : Nat) (x y : Int) (hx : xs[k]? = some x) (hy : ys[k]? = some y) (h : x ≠ y) : xs ≠ ys := by
  rintro rfl; rw [hx] at hy; injection hy with hy; exact h hy
theorem take_snoc_eq {xs ys : List Int} (k : Nat) (x : Int) (hx : xs[k]? = some x) (hy : ys[k]? = some x) (h : xs.take k = ys.take k) : xs.take (k + 1) = ys.take (k + 1) := by
  rw [List.take_add_one, List.take_add_one, h, hx, hy]

set_option maxHeartbeats 400000 in
theorem same_c (A B : Option Addr) (n m c d : Nat) (xs ys : List Int) (w : World) (hA : Rd w w.heap.size A n xs) (hB : Rd w w.heap.size B m ys) (hn : n ≤ 1000000000) (hm : m ≤ 1000000000) :
    Calls Try.prog 17 #[.slice A n c, .slice B m d] w fun e w' => e = .returned (.bool (decide (xs = ys))) ∧ ∃ k, w' = w.drewN k := by
  by_cases hnm : n = m
  · subst hnm
    have hl1 := Lib.hid hA.len
    have hl2 := Lib.hid hB.len
    go_enter Try.func17, Try.ntmps17
    go_wp2
    go_loopw [5] (fun i wr => ∃ k d : Nat, k ≤ n ∧ i = .int .i64 k ∧ xs.take k = ys.take k ∧ wr = w.drewN d) (fun i _ => n - (intOf i).toNat)
    case atStart => exact ⟨0, 0, by omega, rfl, rfl, rfl⟩
    case round =>
      obtain ⟨k, d, hk, rfl, ht, rfl⟩ := hrel
      have HT := Lib.hid ht; clear ht
      by_cases hlt : k < n
      · obtain ⟨b1, o1, rfl, _, hc1⟩ := hA.pos (by omega)
        obtain ⟨b2, o2, rfl, _, hc2⟩ := hB.pos (by omega)
        obtain ⟨x, hx⟩ := getD_some xs k (by have := hl1.out; omega)
        obtain ⟨y, hy⟩ := getD_some ys k (by have := hl2.out; omega)
        have g1 := hc1 k x hx
        have g2 := hc2 k y hy
        have HX := Lib.hid hx; have HY := Lib.hid hy
        clear hx hy hc1 hc2
        have hkz : (0 : Int) ≤ (k : Int) := by omega
        have hkn : (k : Int) < (n : Int) := by omega
        by_cases hxy : x = y
        · subst hxy
          go_wp2
          go_quiet (fail)
          go_wp2
          go_roundw
          case rel => exact ⟨k + 1, _, by omega, by go_num, take_snoc_eq k x HX.out HY.out HT.out, rfl⟩
          case measure => simp [intOf]; omega
        · have hne : (x != y) = true := by rw [bne_iff_ne]; exact hxy
          go_wp2
          go_quiet (fail)
          go_wp2
          go_ret
          exact ⟨ret_bool (by have := take_ne k x y HX.out HY.out hxy; simp [this]), drN _ _ _⟩
      · go_wp2
        go_ret
        refine ⟨ret_bool ?_, _, rfl⟩
        have e1 : xs.take k = xs := List.take_of_length_le (by have := hl1.out; omega)
        have e2 : ys.take k = ys := List.take_of_length_le (by have := hl2.out; omega)
        have := HT.out
        rw [e1, e2] at this
        simp [this]
  · have hl1 := hA.len
    have hl2 := hB.len
    have hne : decide (xs = ys) = false := by
      simp; rintro rfl; omega
    have HNE := Lib.hid hne; clear hne hl1 hl2
    have ht : ((n : Int) != (m : Int)) = true := by rw [bne_iff_ne]; omega
    go_enter Try.func17, Try.ntmps17
    go_wp2
    go_ret
    exact ⟨ret_bool HNE.out.symm, 0, rfl⟩

theorem own_empty (w : World) : Ow (w.alloc (.cells #[] 3)) w.heap.size (some ⟨w.heap.size, 0, none⟩) 0 0 [] :=
  ⟨rfl, .inr ⟨w.heap.size, 0, #[], rfl, Nat.le_refl _, heap_alloc_new w _, Nat.le_refl _, by unfold maxLen; omega, rfl, rfl⟩⟩

set_option maxHeartbeats 400000 in
theorem cut_c (A : Option Addr) (n c : Nat) (xs : List Int) (w : World) (hA : Rd w w.heap.size A n xs) (hnc : n ≤ c) (hc : c ≤ 9223372036854775807) :
    Calls Try.prog 16 #[.slice A n c] w fun e w' => ∃ A' c', e = .returned (.slice A' (min n 40) c') ∧ Ow w' w.heap.size A' (min n 40) c' (xs.take 40) ∧ Below w.heap.size w w' := by
  by_cases h40 : 40 < n
  · have e : min n 40 = 40 := by omega
    rw [e]
    have hR := (hA.take 40 (by omega)).alloc (Nat.le_refl _) (.cells #[] 3)
    go_enter Try.func16, Try.ntmps16
    go_wp2_with (at_builtin; refine appS rfl (.tmp 3) (.tmp 8) rfl _ w.heap.size _ _ _ [] _ _ _ _ _ (by rfl) (by rfl) (own_empty w) hR (by omega) (by simp) ?_; intro A' c' w' ho hg hb hat hcap)
    go_ret
    exact ⟨_, _, rfl, ho, ((Below.refl _ _).alloc (Nat.le_refl _) _).trans hb⟩
  · have e : min n 40 = n := by omega
    have e2 : xs.take 40 = xs := List.take_of_length_le (by have := hA.len; omega)
    rw [e, e2]
    clear e e2
    have hR := hA.alloc (Nat.le_refl _) (.cells #[] 3)
    go_enter Try.func16, Try.ntmps16
    go_wp2_with (at_builtin; refine appS rfl (.tmp 3) (.tmp 8) rfl _ w.heap.size _ _ _ [] _ _ _ _ _ (by rfl) (by rfl) (own_empty w) hR (by omega) (by simp) ?_; intro A' c' w' ho hg hb hat hcap)
    go_ret
    have e0 : 0 + n = n := by omega
    rw [e0] at ho
    exact ⟨_, _, rfl, ho, ((Below.refl _ _).alloc (Nat.le_refl _) _).trans hb⟩

end Go.Proofs.Ytdacfcfgikllpaa
