/- Opening the arguments: pairs of rows, what is turned, and what is held. -/
import Derived.Test.YtgcmedkaadagmaaDoorOpA
namespace Go.Proofs.YtgcmedkaadagmaaDoor
open Go.ChangeShapes Go.WideShapes Go.RowKit

theorem okWide_array {P : Program} {w : World} {r : Reach} {base : Nat} {t : TypeId} {v : Value} {n : Nat} {e : TypeId} (ht : P.underlying t = some (.array n e)) (h : Value.okWide P w r base t v) : ∃ cs, v = .agg cs ∧ cs.size = P.cellsOf t := by
 simp only [Value.okWide, ht] at h
 obtain ⟨cs, h1, h2, _⟩ := h
 exact ⟨cs, h1, h2⟩
def ETurn (cs : List Value) (t : Int × Int × Int × Int) : Prop := cs = [.int .i64 t.1, .int .i64 t.2.1, .int .i64 t.2.2.1, .int .i64 t.2.2.2]
def RdT (w : World) (S : Nat → Prop) (A : Option Addr) (n : Nat) (xs : List (Int × Int × Int × Int)) : Prop := SlE 4 ETurn w S A n xs
section
variable {H : Type} {enc : TypeId × Value → H} {w : World} {base : Nat} {spare : Nat → Bool} {held : Bool}
set_option maxRecDepth 100000 in
theorem op_rows2 {n : Nat} {cs : List Value} {x : DataW H × List MemPlace} (h : DataW.trod enc Tryd.prog w base spare held n 71 cs = some x) :
  ∃ A1 n1 c1 l1 A2 n2 c2 l2, cs = [.slice A1 n1 c1, .slice A2 n2 c2] ∧ Rd w (lo w.heap.size) A1 n1 l1 ∧ Hd n1 c1 ∧ Rd w (lo w.heap.size) A2 n2 l2 ∧ Hd n2 c2 := by
 obtain ⟨xs, m, _, _, hl, hxl, hf⟩ := DataW.trod_array Tryd.underlying71 h
 have hc : Tryd.prog.cellsOf 71 = 2 := by kernel_rfl
 have hi : Tryd.prog.cellsOf 23 = 1 := by kernel_rfl
 rw [hc] at hl
 match cs, hl with
 | [u0, u1], _ =>
  have h0 := hf 0 (by omega)
  have h1 := hf 1 (by omega)
  rw [hi, List.getElem?_eq_getElem (by omega)] at h0 h1
  obtain ⟨l1, A1, n1, c1, e1, r1, g1⟩ := op_ints (cs := [u0]) h0
  obtain ⟨l2, A2, n2, c2, e2, r2, g2⟩ := op_ints (cs := [u1]) h1
  injection e1 with e1
  injection e2 with e2
  subst e1; subst e2
  exact ⟨A1, n1, c1, l1, A2, n2, c2, l2, rfl, r1, g1, r2, g2⟩
theorem op_turn {n : Nat} {cs : List Value} {x : DataW H × List MemPlace} (h : DataW.trod enc Tryd.prog w base spare held n 46 cs = some x) : ∃ t, ETurn cs t := by
 obtain ⟨hl, hf⟩ := field1 (n := 4) Tryd.underlying46 h (by kernel_rfl)
 match cs, hl with
 | [u0, u1, u2, u3], _ =>
  obtain ⟨_, _, t0⟩ := hf 0 0 3 rfl (by kernel_rfl) u0 rfl
  obtain ⟨_, _, t1⟩ := hf 1 1 3 rfl (by kernel_rfl) u1 rfl
  obtain ⟨_, _, t2⟩ := hf 2 2 3 rfl (by kernel_rfl) u2 rfl
  obtain ⟨_, _, t3⟩ := hf 3 3 3 rfl (by kernel_rfl) u3 rfl
  obtain ⟨a, rfl⟩ := op_int t0
  obtain ⟨b, rfl⟩ := op_int t1
  obtain ⟨c, rfl⟩ := op_int t2
  obtain ⟨d, rfl⟩ := op_int t3
  exact ⟨(a, b, c, d), rfl⟩
theorem op_turns {n : Nat} {v : Value} {x : DataW H × List MemPlace} (h : DataW.trod enc Tryd.prog w base spare held n 69 [v] = some x) : ∃ A m c xs, v = .slice A m c ∧ RdT w (lo w.heap.size) A m xs ∧ Hd m c := by
 obtain ⟨A, m, c, xs, e1, h1, h2⟩ := sle_open (α := Int × Int × Int × Int) (E := ETurn) (k := 4) Tryd.underlying69 (by kernel_rfl) (by omega) (fun n cs x h => op_turn h) h
 exact ⟨A, m, c, xs, by simpa using e1, h1, h2⟩
set_option maxRecDepth 100000 in
theorem op_held {n : Nat} {cs : List Value} {x : DataW H × List MemPlace} (h : DataW.trod enc Tryd.prog w base spare held n 48 cs = some x) :
  ∃ g A0 n0 c0 rs t0 t1 t2 t3 A1 n1 c1 l1 A2 n2 c2 l2, cs = [.int .i64 g, .slice A0 n0 c0, .int .i64 t0, .int .i64 t1, .int .i64 t2, .int .i64 t3, .slice A1 n1 c1, .slice A2 n2 c2] ∧ (-9223372036854775808 ≤ g ∧ g ≤ 9223372036854775807) ∧ RdR w (lo w.heap.size) A0 n0 rs ∧ Hd n0 c0 ∧ Rd w (lo w.heap.size) A1 n1 l1 ∧ Hd n1 c1 ∧ Rd w (lo w.heap.size) A2 n2 l2 ∧ Hd n2 c2 := by
 obtain ⟨hl, hf⟩ := field1 (n := 8) Tryd.underlying48 h (by kernel_rfl)
 obtain ⟨xs, m, _, _, _, hxl, hg⟩ := DataW.trod_struct Tryd.underlying48 h
 match cs, hl with
 | [u0, u1, u2, u3, u4, u5, u6, u7], _ =>
  have ht := hg 2 _ rfl
  change DataW.trod enc Tryd.prog w base spare held m 46 (List.take (Tryd.prog.cellsOf 46) (List.drop 2 [u0, u1, u2, u3, u4, u5, u6, u7])) = xs[2]? at ht
  rw [show Tryd.prog.cellsOf 46 = 4 by kernel_rfl] at ht
  rw [List.getElem?_eq_getElem (by rw [hxl]; decide)] at ht
  obtain ⟨t, et⟩ := op_turn (cs := [u2, u3, u4, u5]) ht
  obtain ⟨_, _, t0⟩ := hf 0 0 3 rfl (by kernel_rfl) u0 rfl
  obtain ⟨_, _, t1⟩ := hf 1 1 22 rfl (by kernel_rfl) u1 rfl
  obtain ⟨_, _, t6⟩ := hf 3 6 23 rfl (by kernel_rfl) u6 rfl
  obtain ⟨_, _, t7⟩ := hf 4 7 23 rfl (by kernel_rfl) u7 rfl
  obtain ⟨g, rfl, hgb⟩ := op_intw t0
  obtain ⟨A0, n0, c0, rs, rfl, r0, g0⟩ := op_rules t1
  obtain ⟨l1, A1, n1, c1, e1, r1, g1⟩ := op_ints t6
  obtain ⟨l2, A2, n2, c2, e2, r2, g2⟩ := op_ints t7
  injection e1 with e1
  injection e2 with e2
  subst e1; subst e2
  unfold ETurn at et
  injection et with e3 et
  injection et with e4 et
  injection et with e5 et
  injection et with e6 et
  subst e3; subst e4; subst e5; subst e6
  exact ⟨g, A0, n0, c0, rs, t.1, t.2.1, t.2.2.1, t.2.2.2, A1, n1, c1, l1, A2, n2, c2, l2, rfl, hgb, r0, g0, r1, g1, r2, g2⟩
end

end Go.Proofs.YtgcmedkaadagmaaDoor
