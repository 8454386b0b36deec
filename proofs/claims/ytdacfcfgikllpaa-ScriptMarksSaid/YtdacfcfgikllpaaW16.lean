/- Walks: the document's examples, at the head of all statements of the script layer. -/
import Derived.Test.YtdacfcfgikllpaaW15
namespace Go.Proofs.Ytdacfcfgikllpaa
open Go.RowKit

/-- A slice's literal. -/
theorem rd_new (w : World) (xs : List Int) (cs : Array Value) (n : Nat) (hn : xs.length = n) (h : cs = (xs.map (Value.int .i64)).toArray) : Rd (w.alloc (.cells cs 3)) (w.heap.size + 1) (some ⟨w.heap.size, 0, none⟩) n xs := by
  subst h
  refine ⟨hn, fun _ => ⟨w.heap.size, 0, rfl, by omega, fun i x hx => ?_⟩⟩
  rw [World.cell?_alloc_new]
  simp [hx]

/-- A literal, and what lay stays. -/
theorem rd_lit (w : World) (xs : List Int) (cs : Array Value) (n : Nat) (hn : xs.length = n) (h : cs = (xs.map (Value.int .i64)).toArray) : Rd (w.alloc (.cells cs 3)) (w.alloc (.cells cs 3)).heap.size (some ⟨w.heap.size, 0, none⟩) n xs := by
  rw [World.size_alloc]; exact rd_new w xs cs n hn h

theorem below_lit (w0 w : World) (h : Below w0.heap.size w0 w) (o : Obj) : Below w0.heap.size w0 (w.alloc o) := h.alloc h.size o
theorem below_call {w0 w w' : World} (h : Below w0.heap.size w0 w) (k : Below w.heap.size w w') : Below w0.heap.size w0 w' := h.trans (k.mono h.size)
theorem Rd.call {w w' : World} {B n : Nat} {A : Option Addr} {xs : List Int} (h : Rd w B A n xs) (hB : B ≤ w.heap.size) (k : Below w.heap.size w w') : Rd w' w'.heap.size A n xs := (h.below (k.mono hB)).more (Nat.le_trans hB k.size)
theorem Rd.lit {w : World} {n : Nat} {A : Option Addr} {xs : List Int} (h : Rd w w.heap.size A n xs) (o : Obj) : Rd (w.alloc o) (w.alloc o).heap.size A n xs := (h.alloc (Nat.le_refl _) o).more (by simp)
theorem Rd.dN {w : World} {n : Nat} {A : Option Addr} {xs : List Int} (h : Rd w w.heap.size A n xs) (k : Nat) : Rd (w.drewN k) (w.drewN k).heap.size A n xs := h

theorem same_b (A B : Option Addr) (n m c d : Nat) (xs ys : List Int) (w : World) (hA : Rd w w.heap.size A n xs) (hB : Rd w w.heap.size B m ys) (hn : n ≤ 1000000000) (hm : m ≤ 1000000000) :
    Calls Try.prog 17 #[.slice A n c, .slice B m d] w fun e w' => e = .returned (.bool (decide (xs = ys))) ∧ Below w.heap.size w w' :=
  (same_c A B n m c d xs ys w hA hB hn hm).mono fun e w' ⟨he, k, hk⟩ => ⟨he, by rw [hk]; exact below_drewN (Below.refl _ _) k⟩

theorem ex_forms : forms [57600, 57861, 57600, 57345] = [2, 0, 3, 4] := by decide
theorem ex_order : ints (orderL [58113, 57859, 57858, 58370, 65]) = [3, 0, 2, 1, 4] := by decide
theorem ex_clusters : ints (clustersL [58113, 57859, 57858, 58370, 65]) = [0, 4] := by decide
theorem ex_none : ints (orderL []) = [] := by decide
theorem ex_k1 : kind 58623 = 5 := by decide
theorem ex_k2 : kind 58624 = 0 := by decide
theorem ex_c : cls 57946 = 10 := by decide

set_option maxHeartbeats 1000000 in
theorem lshown_c (w : World) : Calls Try.prog 11 #[] w fun e w' => e = .returned (.bool true) ∧ Below w.heap.size w w' := by
  have b0 := Below.refl w.heap.size w
  go_enter Try.func11, Try.ntmps11
  go_wp2_with fail
  refine (forms_c _ 4 _ [57600, 57861, 57600, 57345] _ (rd_lit _ _ _ _ rfl (by rfl)) (by omega)).mono ?_
  rintro e w1 ⟨A1, c1, rfl, ho1, hb1⟩
  rw [ex_forms] at ho1
  have b1 := below_call (below_lit _ _ b0 _) hb1
  have r1 := ho1.rd
  clear ho1 hb1 b0
  go_wp2_with fail
  refine (order_c _ 5 _ [58113, 57859, 57858, 58370, 65] _ (rd_lit _ _ _ _ rfl (by rfl)) (by omega)).mono ?_
  rintro e w2 ⟨A2, m2, c2, rfl, hm2, ho2, hb2⟩
  rw [ex_order] at ho2
  obtain rfl : m2 = 5 := ho2.len.symm
  have b2 := below_call (below_lit _ _ b1 _) hb2
  have r1b := (r1.lit _).call (Nat.le_refl _) hb2
  have r2 := ho2.rd
  clear ho2 hb2 b1 r1 hm2
  go_wp2_with fail
  refine (clusters_c _ 5 _ [58113, 57859, 57858, 58370, 65] _ (rd_lit _ _ _ _ rfl (by rfl)) (by omega)).mono ?_
  rintro e w3 ⟨A3, m3, c3, rfl, hm3, ho3, hb3⟩
  rw [ex_clusters] at ho3
  obtain rfl : m3 = 2 := ho3.len.symm
  have b3 := below_call (below_lit _ _ b2 _) hb3
  have r1c := (r1b.lit _).call (Nat.le_refl _) hb3
  have r2b := (r2.lit _).call (Nat.le_refl _) hb3
  have r3 := ho3.rd
  clear ho3 hb3 b2 r1b r2 hm3
  go_wp2_with fail
  refine (same_b _ _ 4 4 _ _ [2, 0, 3, 4] [2, 0, 3, 4] _ (r1c.lit _) (rd_lit _ _ _ _ rfl (by rfl)) (by omega) (by omega)).mono ?_
  rintro e w4 ⟨rfl, hb4⟩
  have b4 := below_call (below_lit _ _ b3 _) hb4
  have r2c := (r2b.lit _).call (Nat.le_refl _) hb4
  have r3b := (r3.lit _).call (Nat.le_refl _) hb4
  clear hb4 b3 r1c r2b r3
  go_wp2_with fail
  refine (same_b _ _ 5 5 _ _ [3, 0, 2, 1, 4] [3, 0, 2, 1, 4] _ (r2c.lit _) (rd_lit _ _ _ _ rfl (by rfl)) (by omega) (by omega)).mono ?_
  rintro e w5 ⟨rfl, hb5⟩
  have b5 := below_call (below_lit _ _ b4 _) hb5
  have r3c := (r3b.lit _).call (Nat.le_refl _) hb5
  clear hb5 b4 r2c r3b
  go_wp2_with fail
  refine (same_b _ _ 2 2 _ _ [0, 4] [0, 4] _ (r3c.lit _) (rd_lit _ _ _ _ rfl (by rfl)) (by omega) (by omega)).mono ?_
  rintro e w6 ⟨rfl, hb6⟩
  have b6 := below_call (below_lit _ _ b5 _) hb6
  clear hb6 b5 r3c
  have k1 := ex_k1
  have k2 := ex_k2
  have k3 := ex_c
  go_wp2_with (first | (go_at_call 12; refine (kind_c _ _).mono ?_; rintro e w' ⟨rfl, rfl⟩) | (go_at_call 14; refine (class_c _ _).mono ?_; rintro e w' ⟨rfl, rfl⟩))
  refine (order_c none 0 0 [] _ Rd.nil (by omega)).mono ?_
  rintro e w7 ⟨A7, m7, c7, rfl, hm7, ho7, hb7⟩
  rw [ex_none] at ho7
  obtain rfl : m7 = 0 := ho7.len.symm
  go_wp2
  go_ret
  exact ⟨rfl, below_call b6 hb7⟩

end Go.Proofs.Ytdacfcfgikllpaa
