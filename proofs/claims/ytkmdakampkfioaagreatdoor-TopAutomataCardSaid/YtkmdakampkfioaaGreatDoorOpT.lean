/- Opening the arguments: rows of numbers, pairs of rows, four numbers, as they are handed in. -/
import Derived.Test.YtkmdakampkfioaaGreatDoorV3
import Derived.Deep.Slices
import Derived.ChangeArms
import Derived.WideShapes
import Derived.ChangeShapes
import Derived.OpenShut
namespace Go.Proofs.YtkmdakampkfioaaGreatDoor
open Go.ChangeShapes Go.WideShapes Go.RowKit
theorem addr_plain {w : World} {x : Addr} {v : Value} (h : w.cell? (x.add 0) = some v) : ∃ b o, x = ⟨b, o, none⟩ ∧ b < w.heap.size := by
 obtain ⟨b, o, sp⟩ := x;have hsp : sp = none := by
  cases sp with
  | none => rfl
  | some s =>
   simp [Addr.add, World.cell?] at h;split at h <;> simp_all
 subst hsp;refine ⟨b, o, rfl, ?_⟩;simp only [Addr.add, if_true] at h;unfold World.cell? at h;rcases Nat.lt_or_ge b w.heap.size with hlt | hge
 ·exact hlt
 ·rw [Array.getElem?_eq_none hge] at h; simp at h
theorem add_plain (b o i : Nat) : (⟨b, o, none⟩ : Addr).add i = ⟨b, o + i, none⟩ := by
 unfold Addr.add; split
 ·rename_i h; subst h; rfl
 ·rfl
theorem okWide_array {P : Program} {w : World} {r : Reach} {base : Nat} {t : TypeId} {v : Value} {n : Nat} {e : TypeId} (ht : P.underlying t = some (.array n e)) (h : Value.okWide P w r base t v) : ∃ cs, v = .agg cs ∧ cs.size = P.cellsOf t := by
 simp only [Value.okWide, ht] at h;obtain ⟨cs, h1, h2, _⟩ := h;exact ⟨cs, h1, h2⟩
section
variable {H : Type} {enc : TypeId × Value → H} {w : World} {base : Nat} {spare : Nat → Bool} {held : Bool}
theorem sle_open {α : Type} [Inhabited α] {t e : TypeId} {k : Nat} {E : List Value → α → Prop} {fuel : Nat} {cs : List Value} {x : DataW H × List MemPlace} (ht : Tryz.prog.underlying t = some (.slice e)) (hk : Tryz.prog.cellsOf e = k) (hk0 : 0 < k)
  (hE : ∀ n cs x, DataW.trod enc Tryz.prog w base spare held n e cs = some x → ∃ a : α, E cs a)
  (h : DataW.trod enc Tryz.prog w base spare held fuel t cs = some x) : ∃ A n c xs, cs = [.slice A n c] ∧ SlE k E w (lo w.heap.size) A n xs ∧ Hd n c := by
 rcases Deep.open_slice ht h with ⟨rfl, _⟩ | ⟨a, len, cap, m, n, D, Pl, rfl, _, hl, hm, hmm, _, hi⟩
 ·exact ⟨none, 0, 0, [], rfl, SlE.nil, ⟨Nat.le_refl _, by omega⟩⟩
 ·have hlm : len ≤ m := by rw [hmm]; split <;> omega
  rw [hk] at hi;have hch : ∀ i, i < len → ∃ y : α, ∃ cs', E cs' y ∧ cs'.length = k ∧ ∀ j, j < k → w.cell? (a.add (i * k + j)) = cs'[j]? := fun i hi' => by
   obtain ⟨cs', h1, h2⟩ := hi i (by omega);obtain ⟨y, hy⟩ := hE _ _ _ h2;obtain ⟨_, h3, h4⟩ := World.cells?_some h1;exact ⟨y, cs', hy, h3, fun j hj => by rw [← Deep.add_add]; exact h4 j hj⟩
  obtain ⟨g, hg⟩ := Deep.choose_lt hch;refine ⟨some a, len, cap, (List.range len).map g, rfl, ⟨by simp, fun hn => ?_⟩, hl, by unfold maxLen at hm; omega⟩;obtain ⟨cs0, _, hl0, hc0⟩ := hg 0 (by omega);have h00 := hc0 0 hk0;rw [List.getElem?_eq_getElem (by omega)] at h00;simp only [Nat.zero_mul, Nat.add_zero] at h00;obtain ⟨b, o, rfl, hb⟩ := addr_plain h00;refine ⟨b, o, rfl, hb, fun i y hy => ?_⟩;have hil : i < len := by have := (List.getElem?_eq_some_iff.1 hy).1; simpa using this
  simp [hil] at hy;subst hy;obtain ⟨cs', h1, h2, h3⟩ := hg i hil;refine ⟨cs', h1, fun j v hv => ?_⟩;have hj : j < k := by have := (List.getElem?_eq_some_iff.1 hv).1; omega
  have := h3 j hj;rw [add_plain, ← Nat.add_assoc] at this;rw [this]; exact hv
theorem op_ints {n : Nat} {cs : List Value} {x : DataW H × List MemPlace} (h : DataW.trod enc Tryz.prog w base spare held n 22 cs = some x) : ∃ xs, ERow w (lo w.heap.size) cs xs := by
 obtain ⟨A, m, c, xs, e1, h1, h2⟩ := sle_open (α := Int) (E := EInt) (k := 1) Tryz.underlying22 (by kernel_rfl) (by omega) (fun n cs x h => by
  obtain ⟨a, h1, _⟩ := DataW.trod_int Tryz.underlying3 h;exact ⟨a, h1⟩) h
 exact ⟨xs, A, m, c, e1, h1, h2⟩
set_option maxRecDepth 100000 in
theorem op_rows2 {n : Nat} {cs : List Value} {x : DataW H × List MemPlace} (h : DataW.trod enc Tryz.prog w base spare held n 24 cs = some x) :
  ∃ A1 n1 c1 l1 A2 n2 c2 l2, cs = [.slice A1 n1 c1, .slice A2 n2 c2] ∧ Rd w (lo w.heap.size) A1 n1 l1 ∧ Hd n1 c1 ∧ Rd w (lo w.heap.size) A2 n2 l2 ∧ Hd n2 c2 := by
 obtain ⟨xs, m, _, _, hl, hxl, hf⟩ := DataW.trod_array Tryz.underlying24 h;have hc : Tryz.prog.cellsOf 24 = 2 := by kernel_rfl
 have hi : Tryz.prog.cellsOf 22 = 1 := by kernel_rfl
 rw [hc] at hl
 match cs, hl with
 | [u0, u1], _ =>
  have h0 := hf 0 (by omega);have h1 := hf 1 (by omega);rw [hi, List.getElem?_eq_getElem (by omega)] at h0 h1;obtain ⟨l1, A1, n1, c1, e1, r1, g1⟩ := op_ints (cs := [u0]) h0;obtain ⟨l2, A2, n2, c2, e2, r2, g2⟩ := op_ints (cs := [u1]) h1;injection e1 with e1;injection e2 with e2;subst e1; subst e2;exact ⟨A1, n1, c1, l1, A2, n2, c2, l2, rfl, r1, g1, r2, g2⟩
set_option maxRecDepth 100000 in
theorem op_int4 {n : Nat} {cs : List Value} {x : DataW H × List MemPlace} (h : DataW.trod enc Tryz.prog w base spare held n 23 cs = some x) : ∃ a b c d, cs = [.int .i64 a, .int .i64 b, .int .i64 c, .int .i64 d] := by
 obtain ⟨xs, m, _, _, hl, hxl, hf⟩ := DataW.trod_array Tryz.underlying23 h;have hc : Tryz.prog.cellsOf 23 = 4 := by kernel_rfl
 have hi : Tryz.prog.cellsOf 3 = 1 := by kernel_rfl
 rw [hc] at hl
 match cs, hl with
 | [u0, u1, u2, u3], _ =>
  have h0 := hf 0 (by omega);have h1 := hf 1 (by omega);have h2 := hf 2 (by omega);have h3 := hf 3 (by omega);rw [hi, List.getElem?_eq_getElem (by omega)] at h0 h1 h2 h3;obtain ⟨a, e0, _⟩ := DataW.trod_int (cs := [u0]) Tryz.underlying3 h0;obtain ⟨b, e1, _⟩ := DataW.trod_int (cs := [u1]) Tryz.underlying3 h1;obtain ⟨c, e2, _⟩ := DataW.trod_int (cs := [u2]) Tryz.underlying3 h2;obtain ⟨d, e3, _⟩ := DataW.trod_int (cs := [u3]) Tryz.underlying3 h3;injection e0 with e0; injection e1 with e1; injection e2 with e2; injection e3 with e3;subst e0; subst e1; subst e2; subst e3;exact ⟨a, b, c, d, rfl⟩
end
end Go.Proofs.YtkmdakampkfioaaGreatDoor
