/- Walks: Clone, Sort, Compact over rows of the call's own; Of. -/
import Derived.Test.YtgcmedkaadagmaaDoorS6W1
namespace Go.Proofs.YtgcmedkaadagmaaDoor.S6
open Go.RowKit Go.Sort

def sorted (xs : List Int) : List Int := xs.mergeSort fun x y => decide (x ≤ y)
def ofL (xs : List Int) : List Int := Lib.compact (sorted xs)

theorem getD_cell {w : World} {b o : Nat} {xs : List Int} (h : ∀ (i : Nat) (x : Int), xs[i]? = some x → w.cell? ⟨b, o + i, none⟩ = some (.int .i64 x)) : ∀ j, j < xs.length → w.cell? ⟨b, o + j, none⟩ = some (.int .i64 (xs.getD j 0)) := fun j hj => by
  obtain ⟨x, hx⟩ := getD_some xs j hj
  rw [getD_of hx]; exact h j x hx

theorem clone_c (A : Option Addr) (n c : Nat) (xs : List Int) (w : World) (hA : Rd w w.heap.size A n xs) (hn : n ≤ 1000000) :
    Calls Tryd.prog 92 #[.slice A n c] w fun e w' => ∃ A' c', e = .returned (.slice A' n c') ∧ Ow w' w.heap.size A' n c' xs ∧ Below w.heap.size w w' := by
  rcases A with _ | ad
  · have hm : n = 0 := by
      rcases Nat.eq_zero_or_pos n with h0 | h0
      · exact h0
      · obtain ⟨_, _, h, _⟩ := hA.2 h0; cases h
    subst hm
    have hx : xs = [] := List.eq_nil_of_length_eq_zero hA.1
    subst hx
    refine (Tryd.slices_Clone_int_nil 0 c w).mono ?_
    rintro e w' ⟨rfl, rfl⟩
    exact ⟨none, 0, rfl, Ow.nil _ _, Below.refl _ _⟩
  · rcases Nat.eq_zero_or_pos n with h0 | h0
    · subst h0
      have hx : xs = [] := List.eq_nil_of_length_eq_zero hA.1
      subst hx
      refine (Tryd.slices_Clone_int_zero ad c w).mono ?_
      rintro e w' ⟨v', rfl, ho, _, hb⟩
      obtain ⟨A', c', rfl⟩ := own_slice ho
      exact ⟨A', c', rfl, ho, hb⟩
    · obtain ⟨b, o, e, _, hc⟩ := hA.pos h0
      injection e with e; subst e
      refine (Tryd.slices_Clone_int b o n c xs w (by rw [hA.len]; omega) (by omega) (getD_cell hc)).mono ?_
      rintro e w' ⟨v', rfl, ho, _, hb⟩
      rw [List.take_of_length_le (by rw [hA.len]; omega)] at ho
      obtain ⟨A', c', rfl⟩ := own_slice ho
      exact ⟨A', c', rfl, ho, hb⟩

theorem sort_c (A : Option Addr) (n c base : Nat) (xs : List Int) (w : World) (hA : Ow w base A n c xs) (hb : base ≤ w.heap.size) (hn : n ≤ 1000000) :
    Calls Tryd.prog 93 #[.slice A n c] w fun e w' => e = .returned (.tuple #[]) ∧ Ow w' base A n c (sorted xs) ∧ Below base w w' := by
  have hlen := hA.len
  rcases hA.2 with ⟨h1, h2⟩ | ⟨g, cap, cur, h1, h2, h3, h4, h5, h6, h7⟩
  · injection h1 with h1 hn0 hc0
    subst h1; subst hn0; subst hc0
    have hx : xs = [] := List.eq_nil_of_length_eq_zero hlen
    subst hx
    refine (Tryd.slices_Sort_int_none none 0 w).mono ?_
    rintro e w' ⟨rfl, rfl⟩
    exact ⟨rfl, by rw [show sorted [] = [] by simp [sorted]]; exact Ow.nil _ _, Below.refl _ _⟩
  · injection h1 with h1 hn0 hc0
    subst h1; subst hc0
    subst hlen
    have ht : cur.toList.take xs.length = xs.map (Value.int .i64) := by rw [← h7, Nat.mul_one]
    have hg : g < w.heap.size := (Array.getElem?_eq_some_iff.1 h3).1
    refine (Tryd.slices_Sort_int g 0 c xs w (holds_of_blockI h3 ht) hg (by omega)).mono ?_
    rintro e w' ⟨rfl, m, os, rfl⟩
    refine ⟨rfl, ownsRow_sortedI (by simp) h2 h3 h4 h5 h6, ?_⟩
    exact (Below.refl _ _).grown (grownBy_sortedI _) hb (fun k hk => by injection hk with hk; omega)

theorem compact_c (A : Option Addr) (n c base : Nat) (xs : List Int) (w : World) (hA : Ow w base A n c xs) (hb : base ≤ w.heap.size) (hn : n ≤ 1000000) :
    Calls Tryd.prog 94 #[.slice A n c] w fun e w' => ∃ m, e = .returned (.slice A m c) ∧ Ow w' base A m c (Lib.compact xs) ∧ Below base w w' := by
  have hlen := hA.len
  rcases hA.2 with ⟨h1, h2⟩ | ⟨g, cap, cur, h1, h2, h3, h4, h5, h6, h7⟩
  · injection h1 with h1 hn0 hc0
    subst h1; subst hn0; subst hc0
    have hx : xs = [] := List.eq_nil_of_length_eq_zero hlen
    subst hx
    refine (Tryd.slices_Compact_int_empty none 0 w).mono ?_
    rintro e w' ⟨rfl, rfl⟩
    exact ⟨0, rfl, Ow.nil _ _, Below.refl _ _⟩
  · injection h1 with h1 hn0 hc0
    subst h1; subst hc0
    subst hlen
    have ht : cur.toList.take xs.length = xs.map (Value.int .i64) := by rw [← h7, Nat.mul_one]
    have hg : g < w.heap.size := (Array.getElem?_eq_some_iff.1 h3).1
    refine (Tryd.slices_Compact_int g 0 c xs w (holds_of_blockI h3 ht) (by omega) h4).mono ?_
    rintro e w' ⟨rfl, q, rfl⟩
    have hle := Lib.compact_length_le xs
    have hfull : (Lib.compact xs ++ List.replicate (xs.length - (Lib.compact xs).length) 0).length = xs.length := by simp; omega
    have key := ownsRow_sortedI (w := w) (base := base) (g := g) (cap := c) (n := q) (e := 3) (os := #[]) (cur := cur) (ss := xs) (ts := Lib.compact xs ++ List.replicate (xs.length - (Lib.compact xs).length) 0) hfull h2 h3 h4 h5 h6
    have hgr := grownBy_sortedI (w := w) (g := g) (n := q) (os := #[]) (Lib.compact xs ++ List.replicate (xs.length - (Lib.compact xs).length) 0).toArray
    rw [grow_empty] at key hgr
    refine ⟨_, rfl, ?_, (Below.refl _ _).grown hgr hb (fun k hk => by injection hk with hk; omega)⟩
    rcases key.2 with ⟨k1, _⟩ | ⟨g', cap', cur', k1, k2, k3, k4, k5, k6, k7⟩
    · cases k1
    · injection k1 with k1 _ kc
      injection k1 with k1; injection k1 with k1; subst k1; subst kc
      refine ⟨by simp, .inr ⟨g, c, cur', rfl, k2, k3, by omega, k5, k6, ?_⟩⟩
      have := congrArg (List.take (Lib.compact xs).length) k7
      rw [List.take_take, ← List.map_take, List.take_left, Nat.mul_one, Nat.min_eq_left (by omega)] at this
      rw [Nat.mul_one]; exact this

theorem sorted_length (xs : List Int) : (sorted xs).length = xs.length := by simp [sorted]

theorem of_c (A : Option Addr) (n c : Nat) (xs : List Int) (w : World) (hA : Rd w w.heap.size A n xs) (hn : n ≤ 1000000) :
    Calls Tryd.prog 85 #[.slice A n c] w fun e w' => ∃ A' m c', e = .returned (.slice A' m c') ∧ m ≤ n ∧ Ow w' w.heap.size A' m c' (ofL xs) ∧ Below w.heap.size w w' := by
  have hL := Lib.hid hA.len
  go_enter Tryd.func85, Tryd.ntmps85
  go_wp2_with fail
  refine (clone_c _ _ _ _ _ hA hn).mono ?_
  rintro e w1 ⟨A1, c1, rfl, ho1, hb1⟩
  have bs1 := hb1.size
  clear hA
  go_wp2_with fail
  refine (sort_c _ _ _ _ _ _ ho1 bs1 hn).mono ?_
  rintro e w2 ⟨rfl, ho2, hb2⟩
  have bs2 := hb2.size
  have b2 := hb1.trans hb2
  clear ho1 hb1 hb2
  go_wp2_with fail
  refine (compact_c _ _ _ _ _ _ ho2 (by omega) hn).mono ?_
  rintro e w3 ⟨m, rfl, ho3, hb3⟩
  have b3 := b2.trans hb3
  have hm : m ≤ n := by
    have h1 := Lib.compact_length_le (sorted xs)
    have h2 := ho3.len
    rw [sorted_length, hL.out] at h1; omega
  go_wp2
  go_ret
  exact ⟨_, _, _, rfl, hm, ho3, b3⟩

end Go.Proofs.YtgcmedkaadagmaaDoor.S6
