/- Opening the arguments: automata, rules and rows, as they are handed in. -/
import Derived.Test.YtgcmedkaadagmaaDoorV3
import Derived.Deep.Slices
import Derived.ChangeArms
import Derived.WideShapes
import Derived.ChangeShapes
import Derived.OpenShut
namespace Go.Proofs.YtgcmedkaadagmaaDoor
open Go.ChangeShapes Go.WideShapes Go.RowKit

theorem addr_plain {w : World} {x : Addr} {v : Value} (h : w.cell? (x.add 0) = some v) : ∃ b o, x = ⟨b, o, none⟩ ∧ b < w.heap.size := by
 obtain ⟨b, o, sp⟩ := x
 have hsp : sp = none := by
  cases sp with
  | none => rfl
  | some s =>
   simp [Addr.add, World.cell?] at h
   split at h <;> simp_all
 subst hsp
 refine ⟨b, o, rfl, ?_⟩
 simp only [Addr.add, if_true] at h
 unfold World.cell? at h
 rcases Nat.lt_or_ge b w.heap.size with hlt | hge
 ·exact hlt
 ·rw [Array.getElem?_eq_none hge] at h; simp at h
theorem add_plain (b o i : Nat) : (⟨b, o, none⟩ : Addr).add i = ⟨b, o + i, none⟩ := by
 unfold Addr.add; split
 ·rename_i h; subst h; rfl
 ·rfl

section
variable {H : Type} {enc : TypeId × Value → H} {w : World} {base : Nat} {spare : Nat → Bool} {held : Bool}

theorem sle_open {α : Type} [Inhabited α] {t e : TypeId} {k : Nat} {E : List Value → α → Prop} {fuel : Nat} {cs : List Value} {x : DataW H × List MemPlace} (ht : Tryd.prog.underlying t = some (.slice e)) (hk : Tryd.prog.cellsOf e = k) (hk0 : 0 < k)
  (hE : ∀ n cs x, DataW.trod enc Tryd.prog w base spare held n e cs = some x → ∃ a : α, E cs a)
  (h : DataW.trod enc Tryd.prog w base spare held fuel t cs = some x) : ∃ A n c xs, cs = [.slice A n c] ∧ SlE k E w (lo w.heap.size) A n xs ∧ Hd n c := by
 rcases Deep.open_slice ht h with ⟨rfl, _⟩ | ⟨a, len, cap, m, n, D, Pl, rfl, _, hl, hm, hmm, _, hi⟩
 ·exact ⟨none, 0, 0, [], rfl, SlE.nil, ⟨Nat.le_refl _, by omega⟩⟩
 ·have hlm : len ≤ m := by rw [hmm]; split <;> omega
  rw [hk] at hi
  have hch : ∀ i, i < len → ∃ y : α, ∃ cs', E cs' y ∧ cs'.length = k ∧ ∀ j, j < k → w.cell? (a.add (i * k + j)) = cs'[j]? := fun i hi' => by
   obtain ⟨cs', h1, h2⟩ := hi i (by omega)
   obtain ⟨y, hy⟩ := hE _ _ _ h2
   obtain ⟨_, h3, h4⟩ := World.cells?_some h1
   exact ⟨y, cs', hy, h3, fun j hj => by rw [← Deep.add_add]; exact h4 j hj⟩
  obtain ⟨g, hg⟩ := Deep.choose_lt hch
  refine ⟨some a, len, cap, (List.range len).map g, rfl, ⟨by simp, fun hn => ?_⟩, hl, by unfold maxLen at hm; omega⟩
  obtain ⟨cs0, _, hl0, hc0⟩ := hg 0 (by omega)
  have h00 := hc0 0 hk0
  rw [List.getElem?_eq_getElem (by omega)] at h00
  simp only [Nat.zero_mul, Nat.add_zero] at h00
  obtain ⟨b, o, rfl, hb⟩ := addr_plain h00
  refine ⟨b, o, rfl, hb, fun i y hy => ?_⟩
  have hil : i < len := by have := (List.getElem?_eq_some_iff.1 hy).1; simpa using this
  simp [hil] at hy
  subst hy
  obtain ⟨cs', h1, h2, h3⟩ := hg i hil
  refine ⟨cs', h1, fun j v hv => ?_⟩
  have hj : j < k := by have := (List.getElem?_eq_some_iff.1 hv).1; omega
  have := h3 j hj
  rw [add_plain, ← Nat.add_assoc] at this
  rw [this]; exact hv

theorem field1 {t : TypeId} {fs : Array Field} {n fuel : Nat} {cs : List Value} {x : DataW H × List MemPlace} (ht : Tryd.prog.underlying t = some (.struct fs)) (h : DataW.trod enc Tryd.prog w base spare held fuel t cs = some x) (hn : Tryd.prog.cellsOf t = n) :
  cs.length = n ∧ ∀ (i o ft : Nat), (fs[i]?).map (fun f => (f.type, f.offset)) = some (ft, o) → Tryd.prog.cellsOf ft = 1 → ∀ v, cs[o]? = some v → ∃ m y, DataW.trod enc Tryd.prog w base spare held m ft [v] = some y := by
 obtain ⟨xs, m, _, _, hl, hxl, hg⟩ := DataW.trod_struct ht h
 refine ⟨hl.trans hn, fun i o ft hf h1 v hv => ?_⟩
 obtain ⟨f, hf1, hf2⟩ := Option.map_eq_some_iff.1 hf
 injection hf2 with e1 e2
 have hi : i < fs.size := (Array.getElem?_eq_some_iff.1 hf1).1
 have h2 := hg i f hf1
 rw [e1, e2, h1] at h2
 have h3 : (cs.drop o).take 1 = [v] := by
  obtain ⟨hol, rfl⟩ := List.getElem?_eq_some_iff.1 hv
  rw [List.drop_eq_getElem_cons hol]; rfl
 rw [h3, List.getElem?_eq_getElem (by omega)] at h2
 exact ⟨m, _, h2⟩

theorem op_int {n : Nat} {v : Value} {x : DataW H × List MemPlace} (h : DataW.trod enc Tryd.prog w base spare held n 3 [v] = some x) : ∃ a, v = .int .i64 a := by
 obtain ⟨a, h1, _⟩ := DataW.trod_int Tryd.underlying3 h
 exact ⟨a, by simpa using h1⟩
theorem op_intw {n : Nat} {v : Value} {x : DataW H × List MemPlace} (h : DataW.trod enc Tryd.prog w base spare held n 3 [v] = some x) : ∃ a, v = .int .i64 a ∧ -9223372036854775808 ≤ a ∧ a ≤ 9223372036854775807 := by
 obtain ⟨a, h1, _, h2⟩ := DataW.trod_int Tryd.underlying3 h
 exact ⟨a, by simpa using h1, bounds_i64 h2⟩
theorem op_bool {n : Nat} {v : Value} {x : DataW H × List MemPlace} (h : DataW.trod enc Tryd.prog w base spare held n 4 [v] = some x) : ∃ a, v = .bool a := by
 obtain ⟨a, h1, _⟩ := DataW.trod_bool Tryd.underlying4 h
 exact ⟨a, by simpa using h1⟩
theorem op_any {t e n : Nat} {v : Value} {x : DataW H × List MemPlace} (ht : Tryd.prog.underlying t = some (.slice e)) (h0 : 0 < Tryd.prog.cellsOf e) (h : DataW.trod enc Tryd.prog w base spare held n t [v] = some x) : ∃ A m c, v = .slice A m c := by
 obtain ⟨A, m, c, _, e1, _⟩ := sle_open (α := Unit) (E := fun _ _ => True) ht rfl h0 (fun _ _ _ _ => ⟨(), trivial⟩) h
 exact ⟨A, m, c, by simpa using e1⟩
theorem op_ints {n : Nat} {cs : List Value} {x : DataW H × List MemPlace} (h : DataW.trod enc Tryd.prog w base spare held n 23 cs = some x) : ∃ xs, ERow w (lo w.heap.size) cs xs := by
 obtain ⟨A, m, c, xs, e1, h1, h2⟩ := sle_open (α := Int) (E := EInt) (k := 1) Tryd.underlying23 (by kernel_rfl) (by omega) (fun n cs x h => by
  obtain ⟨a, h1, _⟩ := DataW.trod_int Tryd.underlying3 h
  exact ⟨a, h1⟩) h
 exact ⟨xs, A, m, c, e1, h1, h2⟩
theorem op_rows {n : Nat} {v : Value} {x : DataW H × List MemPlace} (h : DataW.trod enc Tryd.prog w base spare held n 35 [v] = some x) : ∃ A m c xs, v = .slice A m c ∧ RdV w (lo w.heap.size) A m xs ∧ Hd m c := by
 obtain ⟨A, m, c, xs, e1, h1, h2⟩ := sle_open (α := List Int) (E := ERow w (lo w.heap.size)) (k := 1) Tryd.underlying35 (by kernel_rfl) (by omega) (fun n cs x h => op_ints h) h
 exact ⟨A, m, c, xs, by simpa using e1, h1, h2⟩
theorem op_calls {n : Nat} {v : Value} {x : DataW H × List MemPlace} (h : DataW.trod enc Tryd.prog w base spare held n 56 [v] = some x) : ∃ A m c xs, v = .slice A m c ∧ RdC w (lo w.heap.size) A m xs ∧ Hd m c := by
 obtain ⟨A, m, c, xs, e1, h1, h2⟩ := sle_open (α := Int × Int) (E := ECall) (k := 2) Tryd.underlying56 (by kernel_rfl) (by omega) (fun n cs x h => by
  obtain ⟨hl, hf⟩ := field1 (n := 2) Tryd.underlying213 h (by kernel_rfl)
  match cs, hl with
  | [c0, c1], _ =>
   obtain ⟨_, _, t0⟩ := hf 0 0 3 rfl (by kernel_rfl) c0 rfl
   obtain ⟨_, _, t1⟩ := hf 1 1 3 rfl (by kernel_rfl) c1 rfl
   obtain ⟨a, rfl, h1, h2⟩ := op_intw t0
   obtain ⟨b, rfl⟩ := op_int t1
   exact ⟨(a, b), rfl, h1, h2⟩) h
 exact ⟨A, m, c, xs, by simpa using e1, h1, h2⟩
theorem op_rules {n : Nat} {v : Value} {x : DataW H × List MemPlace} (h : DataW.trod enc Tryd.prog w base spare held n 22 [v] = some x) : ∃ A m c xs, v = .slice A m c ∧ RdR w (lo w.heap.size) A m xs ∧ Hd m c := by
 obtain ⟨A, m, c, xs, e1, h1, h2⟩ := sle_open (α := Rul) (E := ERul w (lo w.heap.size)) (k := 6) Tryd.underlying22 (by kernel_rfl) (by omega) (fun n cs x h => by
  obtain ⟨hl, hf⟩ := field1 (n := 6) Tryd.underlying58 h (by kernel_rfl)
  match cs, hl with
  | [c0, c1, c2, c3, c4, c5], _ =>
   obtain ⟨_, _, t0⟩ := hf 0 0 35 rfl (by kernel_rfl) c0 rfl
   obtain ⟨_, _, t1⟩ := hf 1 1 35 rfl (by kernel_rfl) c1 rfl
   obtain ⟨_, _, t2⟩ := hf 2 2 35 rfl (by kernel_rfl) c2 rfl
   obtain ⟨_, _, t3⟩ := hf 3 3 23 rfl (by kernel_rfl) c3 rfl
   obtain ⟨_, _, t4⟩ := hf 4 4 56 rfl (by kernel_rfl) c4 rfl
   obtain ⟨_, _, t5⟩ := hf 5 5 3 rfl (by kernel_rfl) c5 rfl
   obtain ⟨A1, n1, d1, x1, rfl, r1, g1⟩ := op_rows t0
   obtain ⟨A2, n2, d2, x2, rfl, r2, g2⟩ := op_rows t1
   obtain ⟨A3, n3, d3, x3, rfl, r3, g3⟩ := op_rows t2
   obtain ⟨x4, A4, n4, d4, e4, r4, g4⟩ := op_ints t3
   obtain ⟨A5, n5, d5, x5, rfl, r5, g5⟩ := op_calls t4
   obtain ⟨b, rfl⟩ := op_int t5
   obtain rfl : c3 = .slice A4 n4 d4 := by simpa using e4
   exact ⟨⟨x1, x2, x3, x4, x5, b⟩, A1, n1, d1, A2, n2, d2, A3, n3, d3, A4, n4, d4, A5, n5, d5, rfl, r1, r2, r3, r4, r5, g1, g2, g3, g4, g5⟩) h
 exact ⟨A, m, c, xs, by simpa using e1, h1, h2⟩
theorem op_u64s {n : Nat} {v : Value} {x : DataW H × List MemPlace} (h : DataW.trod enc Tryd.prog w base spare held n 36 [v] = some x) : ∃ A m c xs, v = .slice A m c ∧ RdU w (lo w.heap.size) A m xs ∧ Hd m c := by
 obtain ⟨A, m, c, xs, e1, h1, h2⟩ := sle_open (α := Nat) (E := EU) (k := 1) Tryd.underlying36 (by kernel_rfl) (by omega) (fun n cs x h => by
  obtain ⟨a, h1, _, h2⟩ := DataW.trod_int Tryd.underlying50 h
  have h3 := bounds_u64 h2
  exact ⟨a.toNat, by rw [h1]; congr 2; omega, by omega⟩) h
 exact ⟨A, m, c, xs, by simpa using e1, h1, h2⟩
theorem op_au {n : Nat} {cs : List Value} {x : DataW H × List MemPlace} (h : DataW.trod enc Tryd.prog w base spare held n 38 cs = some x) : ∃ (v : AV) (a : Au), cs = v.cells.toList ∧ IsA w (lo w.heap.size) v a := by
 obtain ⟨hl, hf⟩ := field1 (n := 5) Tryd.underlying38 h (by kernel_rfl)
 match cs, hl with
 | [c0, c1, c2, c3, c4], _ =>
  obtain ⟨_, _, t0⟩ := hf 0 0 23 rfl (by kernel_rfl) c0 rfl
  obtain ⟨_, _, t1⟩ := hf 1 1 35 rfl (by kernel_rfl) c1 rfl
  obtain ⟨_, _, t2⟩ := hf 2 2 35 rfl (by kernel_rfl) c2 rfl
  obtain ⟨_, _, t3⟩ := hf 3 3 36 rfl (by kernel_rfl) c3 rfl
  obtain ⟨_, _, t4⟩ := hf 4 4 36 rfl (by kernel_rfl) c4 rfl
  obtain ⟨x1, A1, n1, d1, e1, r1, g1⟩ := op_ints t0
  obtain rfl : c0 = .slice A1 n1 d1 := by simpa using e1
  obtain ⟨A2, n2, d2, x2, rfl, r2, g2⟩ := op_rows t1
  obtain ⟨A3, n3, d3, x3, rfl, r3, g3⟩ := op_rows t2
  obtain ⟨A4, n4, d4, x4, rfl, r4, g4⟩ := op_u64s t3
  obtain ⟨A5, n5, d5, x5, rfl, r5, g5⟩ := op_u64s t4
  exact ⟨⟨A1, n1, d1, A2, n2, d2, A3, n3, d3, A4, n4, d4, A5, n5, d5⟩, ⟨x1, x2, x3, x4, x5⟩, rfl, ⟨r1, r2, r4, g1, g2, g4⟩, ⟨r1, r3, r5, g1, g3, g5⟩⟩
end

end Go.Proofs.YtgcmedkaadagmaaDoor
