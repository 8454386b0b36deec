/- Walks: a maker's pieces of programs and programs. -/
import Derived.Test.YtkmdakampkfioaaGreatDoorY3
namespace Go.Proofs.YtkmdakampkfioaaGreatDoor
open Go.RowKit Go.Shelf
def InsR (gm most : Nat) (w : World) (e : Ending) (w' : World) : Prop := ∃ A n c cs, e = .returned (.slice A n c) ∧ n ≤ most ∧ Ow 180 2 w' w.heap.size A n c cs ∧ (∀ u ∈ cs, u.oneCell' = true) ∧ Up gm w w'
theorem Ow.lit (e k m : Nat) (w : World) (base : Nat) (cs : List Value) (hl : cs.length = m * k) (hb : base ≤ w.heap.size) (hm : m ≤ 1000) : Ow e k (w.alloc (.cells cs.toArray e)) base (some ⟨w.heap.size, 0, none⟩) m m cs :=
 ⟨by omega, .inr ⟨w.heap.size, m, cs.toArray, rfl, hb, heap_alloc_new w _, Nat.le_refl _, by unfold maxLen; omega, by simp [hl], by show cs.take (m * k) = cs; rw [← hl, List.take_length]⟩⟩
theorem insR_lit {gm most m : Nat} {w W : World} {cs : List Value} (hu : Up gm w W) (hg : gm < w.heap.size) (hm : m ≤ most) (hm2 : m ≤ 1000) (hl : cs.length = m * 2) (h1 : ∀ u ∈ cs, u.oneCell' = true) : InsR gm most w (.returned (.slice (some ⟨W.heap.size, 0, none⟩) m m)) (W.alloc (.cells cs.toArray 180)) :=
 ⟨_, m, m, cs, rfl, hm, Ow.lit _ _ _ _ _ _ hl hu.size hm2, h1, hu.alloc (by have := hu.size; omega) _⟩
set_option maxRecDepth 100000 in
set_option maxHeartbeats 2000000 in
theorem bpiece_c (gm n fs : Nat) (s : MSt) (w : World) (h : Mk w gm s) (hn : n ≤ 1000) (hfs : fs ≤ 1000) : Calls Tryz.prog 34 #[.pointer (some ⟨gm, 0, none⟩), .int .i64 (n : Int), .int .i64 (fs : Int)] w (InsR gm 9 w) := by
 have hg := h.lt;have HN := Lib.hid fun (m : Nat) (h0 : 0 < m) (h1 : m ≤ 100000) (W : World) (hu : Up gm w W) => bnext_c gm m s W (hu.st s h) h0 (by omega);have HM := Lib.hid fun (W : World) (hu : Up gm w W) => hu.st s h;have hu0 := Up.refl gm w;clear h;go_enter Tryz.func34, Tryz.ntmps34;have HC := Lib.hid (show Calls Tryz.prog 14 #[.pointer (some ⟨gm, 0, none⟩), .int .i64 ((n : Int) + 1)] w (NextR gm (n + 1) w) from HN.out (n + 1) (by omega) (by omega) w hu0);go_wp2_with fail;refine HC.out.mono ?_;rintro e w1 ⟨p, rfl, hp, hb⟩;have hu1 := hu0.trans hb;clear HC hb;have HC := Lib.hid (show Calls Tryz.prog 14 #[.pointer (some ⟨gm, 0, none⟩), .int .i64 ((n : Int) + 1)] w1 (NextR gm (n + 1) w1) from HN.out (n + 1) (by omega) (by omega) w1 hu1);go_wp2_with fail;refine HC.out.mono ?_;rintro e w2 ⟨q, rfl, hq, hb⟩;have hu2 := hu1.trans hb;clear HC hb;have HC := Lib.hid (show Calls Tryz.prog 14 #[.pointer (some ⟨gm, 0, none⟩), .int .i64 2] w2 (NextR gm 2 w2) from HN.out 2 (by omega) (by omega) w2 hu2);go_wp2_with fail;refine HC.out.mono ?_;rintro e w3 ⟨a, rfl, ha, hb⟩;have hu3 := hu2.trans hb;clear HC hb;have HC := Lib.hid (show Calls Tryz.prog 14 #[.pointer (some ⟨gm, 0, none⟩), .int .i64 12] w3 (NextR gm 12 w3) from HN.out 12 (by omega) (by omega) w3 hu3);go_wp2_with fail;refine HC.out.mono ?_;rintro e w4 ⟨k, rfl, hk, hb⟩;have hu4 := hu3.trans hb;clear HC hb;clear hu0 hu1 hu2 hu3;obtain rfl | rfl | rfl | rfl | rfl | rfl | rfl | rfl | rfl | rfl | rfl | rfl : k = 0 ∨ k = 1 ∨ k = 2 ∨ k = 3 ∨ k = 4 ∨ k = 5 ∨ k = 6 ∨ k = 7 ∨ k = 8 ∨ k = 9 ∨ k = 10 ∨ k = 11 := by omega
 ·go_wp2;go_ret;exact insR_lit hu4 hg (by omega) (by omega) rfl (by simp [Value.oneCell'])
 ·have HC := Lib.hid (show Calls Tryz.prog 14 #[.pointer (some ⟨gm, 0, none⟩), .int .i64 6] w4 (NextR gm 6 w4) from HN.out 6 (by omega) (by omega) w4 hu4);go_wp2_with fail;refine HC.out.mono ?_;rintro e w5 ⟨x, rfl, hx, hb⟩;have hu5 := hu4.trans hb;clear HC hb;go_wp2;go_ret;exact insR_lit hu5 hg (by omega) (by omega) rfl (by simp [Value.oneCell'])
 ·go_wp2;go_ret;exact insR_lit hu4 hg (by omega) (by omega) rfl (by simp [Value.oneCell'])
 ·go_wp2;go_ret;exact insR_lit hu4 hg (by omega) (by omega) rfl (by simp [Value.oneCell'])
 ·have HC := Lib.hid (show Calls Tryz.prog 14 #[.pointer (some ⟨gm, 0, none⟩), .int .i64 200] w4 (NextR gm 200 w4) from HN.out 200 (by omega) (by omega) w4 hu4);go_wp2_with fail;refine HC.out.mono ?_;rintro e w5 ⟨x, rfl, hx, hb⟩;have hu5 := hu4.trans hb;clear HC hb;go_wp2;go_ret;exact insR_lit hu5 hg (by omega) (by omega) rfl (by simp [Value.oneCell'])
 ·go_wp2;go_ret;exact insR_lit hu4 hg (by omega) (by omega) rfl (by simp [Value.oneCell'])
 ·go_wp2;go_ret;exact insR_lit hu4 hg (by omega) (by omega) rfl (by simp [Value.oneCell'])
 ·go_wp2;go_ret;exact insR_lit hu4 hg (by omega) (by omega) rfl (by simp [Value.oneCell'])
 ·by_cases hf : 0 < fs
  ·have f0 : decide (0 < (fs : Int)) = true := by simp; omega
   have f0' : decide (0 < fs) = true := by simp; omega
   have HC := Lib.hid (show Calls Tryz.prog 14 #[.pointer (some ⟨gm, 0, none⟩), .int .i64 (fs : Int)] w4 (NextR gm fs w4) from HN.out fs (by omega) (by omega) w4 hu4);go_wp2_with fail;refine HC.out.mono ?_;rintro e w5 ⟨x, rfl, hx, hb⟩;have hu5 := hu4.trans hb;clear HC hb;go_wp2;go_ret;exact insR_lit hu5 hg (by omega) (by omega) rfl (by simp [Value.oneCell'])
  ·have f0 : decide (0 < (fs : Int)) = false := by simp; omega
   have f0' : decide (0 < fs) = false := by simp; omega
   go_wp2;go_ret;exact insR_lit hu4 hg (by omega) (by omega) rfl (by simp [Value.oneCell'])
 ·by_cases hf : 0 < fs
  ·have f0 : decide (0 < (fs : Int)) = true := by simp; omega
   have f0' : decide (0 < fs) = true := by simp; omega
   obtain ⟨b, l, _, hkm, _, _, l0', l2'⟩ := HM.out w4 hu4;unfold MSt.cells at hkm;have y11 := bx hkm 11 rfl;have z11 := hkm.frozen 11;clear hkm;by_cases hl : 0 < l
   ·have l0 : decide (0 < l) = true := by simpa using hl
    go_upto_region 26 with fail;have hu5 := hu4.trans (Up.loops w4 gm (l - 1) (by omega) (by omega));obtain ⟨w5, hw5⟩ := world_of (w := w4.setCell ⟨gm, 11, none⟩ (.int .i64 (l - 1))) (held1 _);rw [← hw5] at hu5;rw [← hw5];clear hw5 y11 z11;have HC := Lib.hid (show Calls Tryz.prog 14 #[.pointer (some ⟨gm, 0, none⟩), .int .i64 5] w5 (NextR gm 5 w5) from HN.out 5 (by omega) (by omega) w5 hu5);go_wp2_with fail;refine HC.out.mono ?_;rintro e w6 ⟨x, rfl, hx, hb⟩;have hu6 := hu5.trans hb;clear HC hb;have HC := Lib.hid (show Calls Tryz.prog 14 #[.pointer (some ⟨gm, 0, none⟩), .int .i64 (fs : Int)] w6 (NextR gm fs w6) from HN.out fs (by omega) (by omega) w6 hu6);go_wp2_with fail;refine HC.out.mono ?_;rintro e w7 ⟨y, rfl, hy, hb⟩;have hu7 := hu6.trans hb;clear HC hb;go_wp2;go_ret;exact insR_lit hu7 hg (by omega) (by omega) rfl (by simp [Value.oneCell'])
   ·have l0 : decide (0 < l) = false := by simpa using hl
    go_wp2;go_ret;exact insR_lit hu4 hg (by omega) (by omega) rfl (by simp [Value.oneCell'])
  ·have f0 : decide (0 < (fs : Int)) = false := by simp; omega
   have f0' : decide (0 < fs) = false := by simp; omega
   go_wp2;go_ret;exact insR_lit hu4 hg (by omega) (by omega) rfl (by simp [Value.oneCell'])
 ·go_wp2;go_ret;exact insR_lit hu4 hg (by omega) (by omega) rfl (by simp [Value.oneCell'])
 ·go_wp2;go_ret;exact insR_lit hu4 hg (by omega) (by omega) rfl (by simp [Value.oneCell'])
set_option maxRecDepth 100000 in
set_option maxHeartbeats 2000000 in
theorem bhint_c (gm n fs most : Nat) (s : MSt) (w : World) (h : Mk w gm s) (hn : n ≤ 1000) (hfs : fs ≤ 1000) (hm0 : 0 < most) (hm1 : most ≤ 1000) : Calls Tryz.prog 15 #[.pointer (some ⟨gm, 0, none⟩), .int .i64 (n : Int), .int .i64 (fs : Int), .int .i64 (most : Int)] w (InsR gm (9 * most) w) := by
 have hg := h.lt;have HN := Lib.hid (bnext_c gm most s w h (by omega) (by omega));have HK := Lib.hid fun (W : World) (hu : Up gm w W) => bpiece_c gm n fs s W (hu.st s h) hn hfs;clear h;go_enter Tryz.func15, Tryz.ntmps15;go_wp2_with fail;refine HN.out.mono ?_;rintro e w1 ⟨k, rfl, hk, hu1⟩;clear HN;go_upto_region 4 with fail;go_loopw [9, 11] (fun ov iv wr => ∃ (i : Nat) (A : Option Addr) (m c : Nat) (cs : List Value), ov = .slice A m c ∧ iv = .int .i64 (i : Int) ∧ i ≤ k ∧ m ≤ 9 * i ∧ Ow 180 2 wr w.heap.size A m c cs ∧ (∀ u ∈ cs, u.oneCell' = true) ∧ Up gm w wr) (fun _ iv _ => k - (intOf iv).toNat)
 case atStart => exact ⟨0, none, 0, 0, [], rfl, rfl, by omega, by omega, Ow.nil _ _ _ _, (fun u hu => by cases hu), hu1⟩
 case round =>
  clear hu1;obtain ⟨i, A, m, c, cs, rfl, rfl, hi, hm, ho, h1, hu⟩ := hrel;by_cases hlt : i < k
  ·have in0 : (i : Int) < (k : Int) := by omega
   have HC := Lib.hid (HK.out wr hu);go_wp2_with fail;refine HC.out.mono ?_;rintro e w3 ⟨As, ms, c3, ds, rfl, hms, hos, hd1, hu3⟩;have ho3 := hu3.ow ho hg;have hu4 := hu.trans hu3;have hs3 : w.heap.size ≤ w3.heap.size := hu4.size;have hdl := hos.len;have hnews : 0 < ms → ∃ b o, As = some ⟨b, o, none⟩ ∧ ∀ j u, ds[j]? = some u → w3.cell? ⟨b, o + j, none⟩ = some u := fun h0 => by
    obtain ⟨g, rfl, _, _⟩ := hos.form h0;exact ⟨g, 0, rfl, fun j u hu => by rw [Nat.zero_add]; exact hos.cell hu⟩
   have HD := Lib.hid hd1;have hmn : (m + ms) * 16 ≤ 140737488355328 := by omega
   clear HC hu ho hu3 hd1 hos;go_wp2_with (at_builtin; refine appP elt_ins rfl _ _ rfl w3 w.heap.size _ _ _ cs _ ms c3 ds (by rfl) (by rfl) ho3 hdl hnews HD.out hmn hs3 ?_; intro A' c' W4 ho4 hg4 hb4 hat4);have hu5 : Up gm w W4 := hu4.thru hb4 (Nat.le_refl _) hg;clear hg4 hb4 hat4 ho3 hu4 hs3 hnews hmn hdl;go_roundw
   case rel => exact ⟨i + 1, A', m + ms, c', cs ++ ds, rfl, by go_num, by omega, by omega, ho4, (fun u hu => (List.mem_append.1 hu).elim (h1 u) (HD.out u)), hu5⟩
   case measure => simp [intOf] <;> omega
  ·have in0 : ¬ (i : Int) < (k : Int) := by omega
   go_wp2;go_ret;exact ⟨A, m, c, cs, rfl, by omega, ho, h1, hu⟩
end Go.Proofs.YtkmdakampkfioaaGreatDoor
