/- Walks: Grow, Concat, Union. -/
import Derived.Test.YtladdpfngoldcaaW4
import Derived.Test.YtladdpfngoldcaaShelf2
namespace Go.Proofs.Ytladdpfngoldcaa
open Go.RowKit

theorem grow_c (n : Nat) (w : World) (hn : n ≤ 1000000) :
    Calls Try.prog 49 #[.slice none 0 0, .int .i64 n] w fun e w' => ∃ A c, e = .returned (.slice A 0 c) ∧ Ow w' w.heap.size A 0 c [] ∧ Below w.heap.size w w' := by
  rcases Nat.eq_zero_or_pos n with h0 | h0
  · subst h0
    refine (Any8.slices_Grow_room Try.growI none 0 0 0 w (by omega) (by omega) (by omega) (by omega)).mono ?_
    rintro e w' ⟨rfl, rfl⟩
    exact ⟨none, 0, rfl, Ow.nil _ _, Below.refl _ _⟩
  · obtain ⟨i0, hi, hz0, hz1, hz2⟩ := info_parts Try.info3
    refine (Any8.slices_Grow_grow Try.growI i0 (.int .i64 0) hi hz0 (by rw [hz1]; omega) none 0 0 n [] w (by omega) (by omega) (by rw [hz2]; omega) (by omega) (by simp) (fun _ => rfl) (fun a h => by cases h)).mono ?_
    rintro e w' ⟨rfl, rfl⟩
    have hge := grownCap_ge w (0 + n) 0 3
    have hle := grownCap_le_maxLen w (0 + n) 0 3 (by unfold maxLen; omega)
    refine ⟨_, _, rfl, ⟨rfl, .inr ⟨w.heap.size, _, _, rfl, Nat.le_refl _, heap_alloc_new w.drew _, by omega, hle, ?_, by simp⟩⟩, ((Below.refl _ _).drew).alloc (Nat.le_refl _) _⟩
    show (#[] ++ Builtin.zeroCells #[Value.int .i64 0] (0 + n - 0) ++ Builtin.zeroCells #[Value.int .i64 0] (grownCap w (0 + n) 0 3 - (0 + n))).size = _
    simp only [Array.size_append, size_zeroCells]
    show 0 + (0 + n - 0) * 1 + (grownCap w (0 + n) 0 3 - (0 + n)) * 1 = grownCap w (0 + n) 0 3 * 1
    omega

theorem cat_cell0 (w : World) (u v : Value) : (w.alloc (.cells #[u, v] 22)).cell? ⟨w.heap.size, 0, none⟩ = some u := by
  rw [cell_of_row _ _ _ _ _ _ (heap_alloc_new w _)]; rfl
theorem cat_cell1 (w : World) (u v : Value) : (w.alloc (.cells #[u, v] 22)).cell? ⟨w.heap.size, 1, none⟩ = some v := by
  rw [cell_of_row _ _ _ _ _ _ (heap_alloc_new w _)]; rfl

set_option maxRecDepth 100000 in
set_option maxHeartbeats 4000000 in
/-- Of two rows that stand in a row of two. -/
theorem concat_c (A : Option Addr) (n c : Nat) (xs : List Int) (B : Option Addr) (m d : Nat) (ys : List Int) (g : Nat) (w : World) (hA : Rd w w.heap.size A n xs) (hB : Rd w w.heap.size B m ys) (hn : n ≤ 1000) (hm : m ≤ 1000)
    (hg : g < w.heap.size) (h0 : w.cell? ⟨g, 0, none⟩ = some (.slice A n c)) (h1 : w.cell? ⟨g, 1, none⟩ = some (.slice B m d)) :
    Calls Try.prog 45 #[.slice (some ⟨g, 0, none⟩) 2 2] w fun e w' => ∃ A' c', e = .returned (.slice A' (n + m) c') ∧ Ow w' w.heap.size A' (n + m) c' (xs ++ ys) ∧ Below w.heap.size w w' := by
  go_enter Try.func45, Try.ntmps45
  go_wp2
  go_loop [3, 11] (fun s i => (s = .int .i64 0 ∧ i = .int .i64 0) ∨ (s = .int .i64 n ∧ i = .int .i64 1) ∨ (s = .int .i64 ((n + m : Nat) : Int) ∧ i = .int .i64 2)) (fun _ i => 2 - (intOf i).toNat)
  case atStart => exact .inl ⟨rfl, rfl⟩
  case round =>
    rcases hrel with ⟨rfl, rfl⟩ | ⟨rfl, rfl⟩ | ⟨rfl, rfl⟩
    · go_wp2
      go_round
      case rel => exact .inr (.inl ⟨rfl, rfl⟩)
      case measure => simp [intOf]
    · have hnn : ¬ ((n : Int) + (m : Int)) < 0 := by omega
      go_wp2
      go_round
      case rel => exact .inr (.inr ⟨by go_num, rfl⟩)
      case measure => simp [intOf]
    · go_wp2_with fail
      refine (grow_c (n + m) w (by omega)).mono ?_
      rintro e w1 ⟨G, c1, rfl, ho1, hb1⟩
      go_wp2
      go_loopw [6, 27] (fun t i wr => ∃ (q c3 : Nat) (G : Option Addr) (zs : List Int), t = .slice G q c3 ∧ Ow wr w.heap.size G q c3 zs ∧ Below w.heap.size w wr ∧ ((i = .int .i64 0 ∧ q = 0 ∧ zs = []) ∨ (i = .int .i64 1 ∧ q = n ∧ zs = xs) ∨ (i = .int .i64 2 ∧ q = n + m ∧ zs = xs ++ ys))) (fun _ i _ => 2 - (intOf i).toNat)
      case atStart => exact ⟨0, c1, G, [], rfl, ho1, hb1, .inl ⟨rfl, rfl, rfl⟩⟩
      case round =>
        obtain ⟨q, c3, G, zs, rfl, hO, hbr, hrel⟩ := hrel
        have hA1 := hA.call (Nat.le_refl _) hbr
        have hB1 := hB.call (Nat.le_refl _) hbr
        have k0 := hbr.cell (p := ⟨g, 0, none⟩) hg
        have k1 := hbr.cell (p := ⟨g, 1, none⟩) hg
        rw [h0] at k0; rw [h1] at k1
        have bs1 := hbr.size
        clear h0 h1 hA hB ho1 hb1
        rcases hrel with ⟨rfl, rfl, rfl⟩ | ⟨rfl, rfl, rfl⟩ | ⟨rfl, rfl, rfl⟩
        · go_wp2_with (at_builtin; refine appS rfl (.tmp 31) (.tmp 32) rfl wr w.heap.size _ _ _ _ _ _ _ _ _ (by rfl) (by rfl) hO hA1 (by omega) (by omega) ?_; intro A' c' w' ho hgr hb hat hcap)
          go_roundw
          case rel =>
            have e0 : 0 + n = n := by omega
            rw [e0] at ho
            exact ⟨n, c', A', xs, rfl, ho, hbr.trans hb, .inr (.inl ⟨rfl, rfl, rfl⟩)⟩
          case measure => simp [intOf]
        · go_wp2_with (at_builtin; refine appS rfl (.tmp 31) (.tmp 32) rfl wr w.heap.size _ _ _ _ _ _ _ _ _ (by rfl) (by rfl) hO hB1 (by omega) (by omega) ?_; intro A' c' w' ho hgr hb hat hcap)
          go_roundw
          case rel => exact ⟨_, c', A', _, rfl, ho, hbr.trans hb, .inr (.inr ⟨rfl, rfl, rfl⟩)⟩
          case measure => simp [intOf]
        · go_wp2
          go_ret
          exact ⟨_, _, rfl, hO, hbr⟩

theorem union_c (A : Option Addr) (n c : Nat) (xs : List Int) (B : Option Addr) (m d : Nat) (ys : List Int) (w : World) (hA : Rd w w.heap.size A n xs) (hB : Rd w w.heap.size B m ys) (hn : n ≤ 1000) (hm : m ≤ 1000) :
    Calls Try.prog 27 #[.slice A n c, .slice B m d] w fun e w' => ∃ A' k c', e = .returned (.slice A' k c') ∧ k ≤ n + m ∧ Ow w' w.heap.size A' k c' (ofL (xs ++ ys)) ∧ Below w.heap.size w w' := by
  have b0 := below_lit w w (Below.refl _ _) (.cells #[.slice A n c, .slice B m d] 22)
  go_enter Try.func27, Try.ntmps27
  go_wp2_with fail
  refine (concat_c _ _ _ _ _ _ _ _ _ _ (hA.lit _) (hB.lit _) hn hm (by simp) (cat_cell0 _ _ _) (cat_cell1 _ _ _)).mono ?_
  rintro e w1 ⟨A1, c1, rfl, ho1, hb1⟩
  have b1 := below_call b0 hb1
  have r1 := ho1.rd
  go_wp2_with fail
  refine (of_c _ _ _ _ _ r1 (by omega)).mono ?_
  rintro e w2 ⟨A2, k, c2, rfl, hk, ho2, hb2⟩
  have b2 := below_call b1 hb2
  have ho3 := ho2.lower b1.size
  go_wp2
  go_ret
  exact ⟨_, _, _, rfl, hk, ho3, b2⟩

end Go.Proofs.Ytladdpfngoldcaa
