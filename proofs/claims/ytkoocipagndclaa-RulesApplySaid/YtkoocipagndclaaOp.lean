/- Opening the arguments: fonts, runs and glyphs, as they are handed in. -/
import Derived.Test.YtkoocipagndclaaRd
import Derived.Deep.Slices
import Derived.ChangeArms
import Derived.WideShapes
import Derived.ChangeShapes
import Derived.OpenShut
namespace Go.Proofs.Ytkoocipagndclaa
open Go.ChangeShapes Go.WideShapes Go.RowKit

theorem addr_plain {w : World} {x : Addr} {v : Value} (h : w.cell? (x.add 0) = some v) : ∃ b o, x = ⟨b, o, none⟩ ∧ b < w.heap.size := by
  obtain ⟨b, o, sp⟩ := x
  have hsp : sp = none := by
    cases sp with
    | none => rfl
    | some s =>
      simp [Addr.add, World.cell?] at h
      split at h <;> simp_all
  subst hsp
  refine ⟨b, o, rfl, ?_⟩
  simp only [Addr.add, if_true] at h
  unfold World.cell? at h
  rcases Nat.lt_or_ge b w.heap.size with hlt | hge
  · exact hlt
  · rw [Array.getElem?_eq_none hge] at h; simp at h
theorem add_plain (b o i : Nat) : (⟨b, o, none⟩ : Addr).add i = ⟨b, o + i, none⟩ := by
  unfold Addr.add; split
  · rename_i h; subst h; rfl
  · rfl

section
variable {H : Type} {enc : TypeId × Value → H} {w : World} {base : Nat} {spare : Nat → Bool} {held : Bool}

theorem sle_open {α : Type} [Inhabited α] {t e : TypeId} {k : Nat} {E : List Value → α → Prop} {fuel : Nat} {cs : List Value} {x : DataW H × List MemPlace} (ht : Try.prog.underlying t = some (.slice e)) (hk : Try.prog.cellsOf e = k) (hk0 : 0 < k)
    (hE : ∀ n cs x, DataW.trod enc Try.prog w base spare held n e cs = some x → ∃ a : α, E cs a)
    (h : DataW.trod enc Try.prog w base spare held fuel t cs = some x) : ∃ A n c xs, cs = [.slice A n c] ∧ SlE k E w (lo w.heap.size) A n xs ∧ Hd n c := by
  rcases Deep.open_slice ht h with ⟨rfl, _⟩ | ⟨a, len, cap, m, n, D, Pl, rfl, _, hl, hm, hmm, _, hi⟩
  · exact ⟨none, 0, 0, [], rfl, SlE.nil, ⟨Nat.le_refl _, by omega⟩⟩
  · have hlm : len ≤ m := by rw [hmm]; split <;> omega
    rw [hk] at hi
    have hch : ∀ i, i < len → ∃ y : α, ∃ cs', E cs' y ∧ cs'.length = k ∧ ∀ j, j < k → w.cell? (a.add (i * k + j)) = cs'[j]? := fun i hi' => by
      obtain ⟨cs', h1, h2⟩ := hi i (by omega)
      obtain ⟨y, hy⟩ := hE _ _ _ h2
      obtain ⟨_, h3, h4⟩ := World.cells?_some h1
      exact ⟨y, cs', hy, h3, fun j hj => by rw [← Deep.add_add]; exact h4 j hj⟩
    obtain ⟨g, hg⟩ := Deep.choose_lt hch
    refine ⟨some a, len, cap, (List.range len).map g, rfl, ⟨by simp, fun hn => ?_⟩, hl, by unfold maxLen at hm; omega⟩
    obtain ⟨cs0, _, hl0, hc0⟩ := hg 0 (by omega)
    have h00 := hc0 0 hk0
    rw [List.getElem?_eq_getElem (by omega)] at h00
    simp only [Nat.zero_mul, Nat.add_zero] at h00
    obtain ⟨b, o, rfl, hb⟩ := addr_plain h00
    refine ⟨b, o, rfl, hb, fun i y hy => ?_⟩
    have hil : i < len := by have := (List.getElem?_eq_some_iff.1 hy).1; simpa using this
    simp [hil] at hy
    subst hy
    obtain ⟨cs', h1, h2, h3⟩ := hg i hil
    refine ⟨cs', h1, fun j v hv => ?_⟩
    have hj : j < k := by have := (List.getElem?_eq_some_iff.1 hv).1; omega
    have := h3 j hj
    rw [add_plain, ← Nat.add_assoc] at this
    rw [this]; exact hv

theorem field1 {t : TypeId} {fs : Array Field} {n fuel : Nat} {cs : List Value} {x : DataW H × List MemPlace} (ht : Try.prog.underlying t = some (.struct fs)) (h : DataW.trod enc Try.prog w base spare held fuel t cs = some x) (hn : Try.prog.cellsOf t = n) :
    cs.length = n ∧ ∀ (i o ft : Nat), (fs[i]?).map (fun f => (f.type, f.offset)) = some (ft, o) → Try.prog.cellsOf ft = 1 → ∀ v, cs[o]? = some v → ∃ m y, DataW.trod enc Try.prog w base spare held m ft [v] = some y := by
  obtain ⟨xs, m, _, _, hl, hxl, hg⟩ := DataW.trod_struct ht h
  refine ⟨hl.trans hn, fun i o ft hf h1 v hv => ?_⟩
  obtain ⟨f, hf1, hf2⟩ := Option.map_eq_some_iff.1 hf
  injection hf2 with e1 e2
  have hi : i < fs.size := (Array.getElem?_eq_some_iff.1 hf1).1
  have h2 := hg i f hf1
  rw [e1, e2, h1] at h2
  have h3 : (cs.drop o).take 1 = [v] := by
    obtain ⟨hol, rfl⟩ := List.getElem?_eq_some_iff.1 hv
    rw [List.drop_eq_getElem_cons hol]; rfl
  rw [h3, List.getElem?_eq_getElem (by omega)] at h2
  exact ⟨m, _, h2⟩

theorem op_int {n : Nat} {v : Value} {x : DataW H × List MemPlace} (h : DataW.trod enc Try.prog w base spare held n 3 [v] = some x) : ∃ a, v = .int .i64 a := by
  obtain ⟨a, h1, _⟩ := DataW.trod_int Try.underlying3 h
  exact ⟨a, by simpa using h1⟩
theorem op_intw {n : Nat} {v : Value} {x : DataW H × List MemPlace} (h : DataW.trod enc Try.prog w base spare held n 3 [v] = some x) : ∃ a, v = .int .i64 a ∧ -9223372036854775808 ≤ a ∧ a ≤ 9223372036854775807 := by
  obtain ⟨a, h1, _, h2⟩ := DataW.trod_int Try.underlying3 h
  exact ⟨a, by simpa using h1, bounds_i64 h2⟩
theorem op_bool {n : Nat} {v : Value} {x : DataW H × List MemPlace} (h : DataW.trod enc Try.prog w base spare held n 4 [v] = some x) : ∃ a, v = .bool a := by
  obtain ⟨a, h1, _⟩ := DataW.trod_bool Try.underlying4 h
  exact ⟨a, by simpa using h1⟩
theorem op_any {t e n : Nat} {v : Value} {x : DataW H × List MemPlace} (ht : Try.prog.underlying t = some (.slice e)) (h0 : 0 < Try.prog.cellsOf e) (h : DataW.trod enc Try.prog w base spare held n t [v] = some x) : ∃ A m c, v = .slice A m c := by
  obtain ⟨A, m, c, _, e1, _⟩ := sle_open (α := Unit) (E := fun _ _ => True) ht rfl h0 (fun _ _ _ _ => ⟨(), trivial⟩) h
  exact ⟨A, m, c, by simpa using e1⟩
theorem op_ints {n : Nat} {cs : List Value} {x : DataW H × List MemPlace} (h : DataW.trod enc Try.prog w base spare held n 29 cs = some x) : ∃ xs, ERow w (lo w.heap.size) cs xs := by
  obtain ⟨A, m, c, xs, e1, h1, h2⟩ := sle_open (α := Int) (E := EInt) (k := 1) Try.underlying29 (by kernel_rfl) (by omega) (fun n cs x h => by
    obtain ⟨a, h1, _⟩ := DataW.trod_int Try.underlying3 h
    exact ⟨a, h1⟩) h
  exact ⟨xs, A, m, c, e1, h1, h2⟩
theorem op_rows {n : Nat} {v : Value} {x : DataW H × List MemPlace} (h : DataW.trod enc Try.prog w base spare held n 45 [v] = some x) : ∃ A m c xs, v = .slice A m c ∧ RdV w (lo w.heap.size) A m xs ∧ Hd m c := by
  obtain ⟨A, m, c, xs, e1, h1, h2⟩ := sle_open (α := List Int) (E := ERow w (lo w.heap.size)) (k := 1) Try.underlying45 (by kernel_rfl) (by omega) (fun n cs x h => op_ints h) h
  exact ⟨A, m, c, xs, by simpa using e1, h1, h2⟩
theorem op_calls {n : Nat} {v : Value} {x : DataW H × List MemPlace} (h : DataW.trod enc Try.prog w base spare held n 46 [v] = some x) : ∃ A m c xs, v = .slice A m c ∧ RdC w (lo w.heap.size) A m xs ∧ Hd m c := by
  obtain ⟨A, m, c, xs, e1, h1, h2⟩ := sle_open (α := Int × Int) (E := ECall) (k := 2) Try.underlying46 (by kernel_rfl) (by omega) (fun n cs x h => by
    obtain ⟨hl, hf⟩ := field1 (n := 2) Try.underlying55 h (by kernel_rfl)
    match cs, hl with
    | [c0, c1], _ =>
      obtain ⟨_, _, t0⟩ := hf 0 0 3 rfl (by kernel_rfl) c0 rfl
      obtain ⟨_, _, t1⟩ := hf 1 1 3 rfl (by kernel_rfl) c1 rfl
      obtain ⟨a, rfl, h1, h2⟩ := op_intw t0
      obtain ⟨b, rfl⟩ := op_int t1
      exact ⟨(a, b), rfl, h1, h2⟩) h
  exact ⟨A, m, c, xs, by simpa using e1, h1, h2⟩
theorem op_rules {n : Nat} {v : Value} {x : DataW H × List MemPlace} (h : DataW.trod enc Try.prog w base spare held n 42 [v] = some x) : ∃ A m c xs, v = .slice A m c ∧ RdR w (lo w.heap.size) A m xs ∧ Hd m c := by
  obtain ⟨A, m, c, xs, e1, h1, h2⟩ := sle_open (α := Rul) (E := ERul w (lo w.heap.size)) (k := 6) Try.underlying42 (by kernel_rfl) (by omega) (fun n cs x h => by
    obtain ⟨hl, hf⟩ := field1 (n := 6) Try.underlying48 h (by kernel_rfl)
    match cs, hl with
    | [c0, c1, c2, c3, c4, c5], _ =>
      obtain ⟨_, _, t0⟩ := hf 0 0 45 rfl (by kernel_rfl) c0 rfl
      obtain ⟨_, _, t1⟩ := hf 1 1 45 rfl (by kernel_rfl) c1 rfl
      obtain ⟨_, _, t2⟩ := hf 2 2 45 rfl (by kernel_rfl) c2 rfl
      obtain ⟨_, _, t3⟩ := hf 3 3 29 rfl (by kernel_rfl) c3 rfl
      obtain ⟨_, _, t4⟩ := hf 4 4 46 rfl (by kernel_rfl) c4 rfl
      obtain ⟨_, _, t5⟩ := hf 5 5 3 rfl (by kernel_rfl) c5 rfl
      obtain ⟨A1, n1, d1, x1, rfl, r1, g1⟩ := op_rows t0
      obtain ⟨A2, n2, d2, x2, rfl, r2, g2⟩ := op_rows t1
      obtain ⟨A3, n3, d3, x3, rfl, r3, g3⟩ := op_rows t2
      obtain ⟨x4, A4, n4, d4, e4, r4, g4⟩ := op_ints t3
      obtain ⟨A5, n5, d5, x5, rfl, r5, g5⟩ := op_calls t4
      obtain ⟨b, rfl⟩ := op_int t5
      obtain rfl : c3 = .slice A4 n4 d4 := by simpa using e4
      exact ⟨⟨x1, x2, x3, x4, x5, b⟩, A1, n1, d1, A2, n2, d2, A3, n3, d3, A4, n4, d4, A5, n5, d5, rfl, r1, r2, r3, r4, r5, g1, g2, g3, g4, g5⟩) h
  exact ⟨A, m, c, xs, by simpa using e1, h1, h2⟩
theorem op_lookups {n : Nat} {v : Value} {x : DataW H × List MemPlace} (h : DataW.trod enc Try.prog w base spare held n 24 [v] = some x) : ∃ A m c xs, v = .slice A m c ∧ RdL w (lo w.heap.size) A m xs ∧ Hd m c := by
  obtain ⟨A, m, c, xs, e1, h1, h2⟩ := sle_open (α := Lk) (E := ELk w (lo w.heap.size)) (k := 3) Try.underlying24 (by kernel_rfl) (by omega) (fun n cs x h => by
    obtain ⟨hl, hf⟩ := field1 (n := 3) Try.underlying44 h (by kernel_rfl)
    match cs, hl with
    | [c0, c1, c2], _ =>
      obtain ⟨_, _, t0⟩ := hf 0 0 3 rfl (by kernel_rfl) c0 rfl
      obtain ⟨_, _, t1⟩ := hf 1 1 4 rfl (by kernel_rfl) c1 rfl
      obtain ⟨_, _, t2⟩ := hf 2 2 42 rfl (by kernel_rfl) c2 rfl
      obtain ⟨a, rfl⟩ := op_int t0
      obtain ⟨b, rfl⟩ := op_bool t1
      obtain ⟨A1, n1, d1, x1, rfl, r1, g1⟩ := op_rules t2
      exact ⟨⟨a, b, x1⟩, A1, n1, d1, rfl, r1, g1⟩) h
  exact ⟨A, m, c, xs, by simpa using e1, h1, h2⟩
theorem op_anchors {n : Nat} {v : Value} {x : DataW H × List MemPlace} (h : DataW.trod enc Try.prog w base spare held n 78 [v] = some x) : ∃ A m c xs, v = .slice A m c ∧ RdA w (lo w.heap.size) A m xs ∧ Hd m c := by
  obtain ⟨A, m, c, xs, e1, h1, h2⟩ := sle_open (α := Anc) (E := EAnc) (k := 4) Try.underlying78 (by kernel_rfl) (by omega) (fun n cs x h => by
    obtain ⟨hl, hf⟩ := field1 (n := 4) Try.underlying175 h (by kernel_rfl)
    match cs, hl with
    | [c0, c1, c2, c3], _ =>
      obtain ⟨_, _, t0⟩ := hf 0 0 3 rfl (by kernel_rfl) c0 rfl
      obtain ⟨_, _, t1⟩ := hf 1 1 3 rfl (by kernel_rfl) c1 rfl
      obtain ⟨_, _, t2⟩ := hf 2 2 3 rfl (by kernel_rfl) c2 rfl
      obtain ⟨_, _, t3⟩ := hf 3 3 3 rfl (by kernel_rfl) c3 rfl
      obtain ⟨a0, rfl⟩ := op_int t0
      obtain ⟨a1, rfl⟩ := op_int t1
      obtain ⟨a2, rfl⟩ := op_int t2
      obtain ⟨a3, rfl⟩ := op_int t3
      exact ⟨⟨a0, a1, a2, a3⟩, rfl⟩) h
  exact ⟨A, m, c, xs, by simpa using e1, h1, h2⟩
theorem op_glyph {n : Nat} {cs : List Value} {x : DataW H × List MemPlace} (h : DataW.trod enc Try.prog w base spare held n 82 cs = some x) : ∃ g, EGly w (lo w.heap.size) cs g := by
  obtain ⟨hl, hf⟩ := field1 (n := 9) Try.underlying82 h (by kernel_rfl)
  match cs, hl with
  | [c0, c1, c2, c3, c4, c5, c6, c7, c8], _ =>
    obtain ⟨_, _, t2⟩ := hf 2 2 4 rfl (by kernel_rfl) c2 rfl
    obtain ⟨_, _, t6⟩ := hf 5 6 78 rfl (by kernel_rfl) c6 rfl
    obtain ⟨b, rfl⟩ := op_bool t2
    obtain ⟨A, m, c, xs, rfl, r, g⟩ := op_anchors t6
    exact ⟨⟨b, xs⟩, c0, c1, c3, c4, c5, A, m, c, c7, c8, rfl, r, g⟩
theorem op_glyphs {n : Nat} {v : Value} {x : DataW H × List MemPlace} (h : DataW.trod enc Try.prog w base spare held n 22 [v] = some x) : ∃ A m c xs, v = .slice A m c ∧ RdG w (lo w.heap.size) A m xs ∧ Hd m c := by
  obtain ⟨A, m, c, xs, e1, h1, h2⟩ := sle_open (α := Gly) (E := EGly w (lo w.heap.size)) (k := 9) Try.underlying22 (by kernel_rfl) (by omega) (fun n cs x h => op_glyph h) h
  exact ⟨A, m, c, xs, by simpa using e1, h1, h2⟩
theorem op_items {n : Nat} {v : Value} {x : DataW H × List MemPlace} (h : DataW.trod enc Try.prog w base spare held n 32 [v] = some x) : ∃ A m c xs, v = .slice A m c ∧ RdI w (lo w.heap.size) A m xs ∧ Hd m c := by
  obtain ⟨A, m, c, xs, e1, h1, h2⟩ := sle_open (α := Itm) (E := EItm) (k := 6) Try.underlying32 (by kernel_rfl) (by omega) (fun n cs x h => by
    obtain ⟨hl, hf⟩ := field1 (n := 6) Try.underlying51 h (by kernel_rfl)
    match cs, hl with
    | [c0, c1, c2, c3, c4, c5], _ =>
      obtain ⟨_, _, t0⟩ := hf 0 0 3 rfl (by kernel_rfl) c0 rfl
      obtain ⟨_, _, t1⟩ := hf 1 1 3 rfl (by kernel_rfl) c1 rfl
      obtain ⟨_, _, t2⟩ := hf 2 2 3 rfl (by kernel_rfl) c2 rfl
      obtain ⟨_, _, t3⟩ := hf 3 3 3 rfl (by kernel_rfl) c3 rfl
      obtain ⟨_, _, t4⟩ := hf 4 4 3 rfl (by kernel_rfl) c4 rfl
      obtain ⟨_, _, t5⟩ := hf 5 5 3 rfl (by kernel_rfl) c5 rfl
      obtain ⟨a0, rfl⟩ := op_int t0
      obtain ⟨a1, rfl⟩ := op_int t1
      obtain ⟨a2, rfl⟩ := op_int t2
      obtain ⟨a3, rfl⟩ := op_int t3
      obtain ⟨a4, rfl⟩ := op_int t4
      obtain ⟨a5, rfl⟩ := op_int t5
      exact ⟨⟨a0, a1, a2, a3, a4, a5⟩, rfl⟩) h
  exact ⟨A, m, c, xs, by simpa using e1, h1, h2⟩
theorem op_font {n : Nat} {cs : List Value} {x : DataW H × List MemPlace} (h : DataW.trod enc Try.prog w base spare held n 31 cs = some x) : ∃ (f : FV) (F : Fnt), cs = f.cells.toList ∧ IsF w (lo w.heap.size) f F := by
  obtain ⟨hl, hf⟩ := field1 (n := 9) Try.underlying31 h (by kernel_rfl)
  match cs, hl with
  | [c0, c1, c2, c3, c4, c5, c6, c7, c8], _ =>
    obtain ⟨_, _, t0⟩ := hf 0 0 3 rfl (by kernel_rfl) c0 rfl
    obtain ⟨_, _, t1⟩ := hf 1 1 22 rfl (by kernel_rfl) c1 rfl
    obtain ⟨_, _, t2⟩ := hf 2 2 23 rfl (by kernel_rfl) c2 rfl
    obtain ⟨_, _, t3⟩ := hf 3 3 24 rfl (by kernel_rfl) c3 rfl
    obtain ⟨_, _, t4⟩ := hf 4 4 25 rfl (by kernel_rfl) c4 rfl
    obtain ⟨_, _, t5⟩ := hf 5 5 26 rfl (by kernel_rfl) c5 rfl
    obtain ⟨_, _, t6⟩ := hf 6 6 27 rfl (by kernel_rfl) c6 rfl
    obtain ⟨_, _, t7⟩ := hf 7 7 28 rfl (by kernel_rfl) c7 rfl
    obtain ⟨_, _, t8⟩ := hf 8 8 29 rfl (by kernel_rfl) c8 rfl
    obtain ⟨u, rfl⟩ := op_int t0
    obtain ⟨ga, gn, gc, gs, rfl, rg, dg⟩ := op_glyphs t1
    obtain ⟨a2, n2, d2, rfl⟩ := op_any Try.underlying23 (by decide +kernel) t2
    obtain ⟨la, ln, lc, ls, rfl, rl, dl⟩ := op_lookups t3
    obtain ⟨a4, n4, d4, rfl⟩ := op_any Try.underlying25 (by decide +kernel) t4
    obtain ⟨a5, n5, d5, rfl⟩ := op_any Try.underlying26 (by decide +kernel) t5
    obtain ⟨a6, n6, d6, rfl⟩ := op_any Try.underlying27 (by decide +kernel) t6
    obtain ⟨a7, n7, d7, rfl⟩ := op_any Try.underlying28 (by decide +kernel) t7
    obtain ⟨a8, n8, d8, rfl⟩ := op_any Try.underlying29 (by decide +kernel) t8
    exact ⟨⟨u, ga, gn, gc, a2, n2, d2, la, ln, lc, a4, n4, d4, a5, n5, d5, a6, n6, d6, a7, n7, d7, a8, n8, d8⟩, ⟨gs, ls⟩, rfl, rg, rl, dg, dl⟩
/-- A field of several cells. -/
theorem fieldN {t : TypeId} {fs : Array Field} {n fuel : Nat} {cs : List Value} {x : DataW H × List MemPlace} (ht : Try.prog.underlying t = some (.struct fs)) (h : DataW.trod enc Try.prog w base spare held fuel t cs = some x) (hn : Try.prog.cellsOf t = n) :
    cs.length = n ∧ ∀ (i o ft k : Nat), (fs[i]?).map (fun f => (f.type, f.offset)) = some (ft, o) → Try.prog.cellsOf ft = k → ∃ m y, DataW.trod enc Try.prog w base spare held m ft ((cs.drop o).take k) = some y := by
  obtain ⟨xs, m, _, _, hl, hxl, hg⟩ := DataW.trod_struct ht h
  refine ⟨hl.trans hn, fun i o ft k hf h1 => ?_⟩
  obtain ⟨f, hf1, hf2⟩ := Option.map_eq_some_iff.1 hf
  injection hf2 with e1 e2
  have hi : i < fs.size := (Array.getElem?_eq_some_iff.1 hf1).1
  have h2 := hg i f hf1
  rw [e1, e2, h1, List.getElem?_eq_getElem (by omega)] at h2
  exact ⟨m, _, h2⟩
theorem op_ask {n : Nat} {cs : List Value} {x : DataW H × List MemPlace} (h : DataW.trod enc Try.prog w base spare held n 34 cs = some x) : ∃ (f : FV) (F : Fnt) (n : Int) (RA : Option Addr) (rn rc : Nat) (run : List Itm) (k : Int) (FA : Option Addr) (fn fc : Nat) (forms : List Int), cs = f.cells.toList ++ [.int .i64 n, .slice RA rn rc, .int .i64 k, .slice FA fn fc] ∧ IsF w (lo w.heap.size) f F ∧ RdI w (lo w.heap.size) RA rn run ∧ Hd rn rc ∧ Rd w (lo w.heap.size) FA fn forms ∧ Hd fn fc := by
  obtain ⟨hl, hf⟩ := fieldN (n := 13) Try.underlying34 h (by kernel_rfl)
  match cs, hl with
  | [c0, c1, c2, c3, c4, c5, c6, c7, c8, c9, c10, c11, c12], _ =>
    obtain ⟨_, _, t0⟩ := hf 0 0 31 9 rfl (by kernel_rfl)
    obtain ⟨_, _, t1⟩ := hf 1 9 3 1 rfl (by kernel_rfl)
    obtain ⟨_, _, t2⟩ := hf 2 10 32 1 rfl (by kernel_rfl)
    obtain ⟨_, _, t3⟩ := hf 3 11 3 1 rfl (by kernel_rfl)
    obtain ⟨_, _, t4⟩ := hf 4 12 29 1 rfl (by kernel_rfl)
    obtain ⟨f, F, e0, hF⟩ := op_font t0
    obtain ⟨a, e1⟩ := op_int t1
    obtain ⟨RA, rn, rc, run, e2, hr, hd⟩ := op_items t2
    obtain ⟨b, e3⟩ := op_int t3
    obtain ⟨xs, FA, fn, fc, e4, hx, hd2⟩ := op_ints t4
    have e0 : [c0, c1, c2, c3, c4, c5, c6, c7, c8] = f.cells.toList := e0
    obtain rfl : c12 = .slice FA fn fc := by have e5 : [c12] = [Value.slice FA fn fc] := e4; simpa using e5
    subst e1; subst e2; subst e3
    refine ⟨f, F, a, RA, rn, rc, run, b, FA, fn, fc, xs, ?_, hF, hr, hd, hx, hd2⟩
    rw [← e0]; rfl
end

end Go.Proofs.Ytkoocipagndclaa
