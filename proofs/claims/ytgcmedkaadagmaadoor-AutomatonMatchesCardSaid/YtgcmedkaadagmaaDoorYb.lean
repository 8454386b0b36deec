/- Words: rows of a font in the making, in a maker. -/
import Derived.Test.YtgcmedkaadagmaaDoorY9
namespace Go.Proofs.YtgcmedkaadagmaaDoor
open Go.RowKit Go.Shelf

theorem elt_axis : ElT 29 106 4 40 (.agg #[.string ⟨#[]⟩, .int .i64 0, .int .i64 0, .int .i64 0]) := ⟨Tryd.underlying29, by kernel_rfl, rfl, by decide, by decide⟩
theorem elt_tent : ElT 107 111 3 24 (.agg #[.int .i64 0, .int .i64 0, .int .i64 0]) := ⟨Tryd.underlying107, by kernel_rfl, rfl, by decide, by decide⟩
theorem elt_region : ElT 30 109 1 24 (.agg #[.slice none 0 0]) := ⟨Tryd.underlying30, by kernel_rfl, rfl, by decide, by decide⟩
theorem elt_insl : ElT 31 83 1 24 (.slice none 0 0) := ⟨Tryd.underlying31, by kernel_rfl, rfl, by decide, by decide⟩
theorem elt_char : ElT 26 116 2 16 (.agg #[.int .i64 0, .int .i64 0]) := ⟨Tryd.underlying26, by kernel_rfl, rfl, by decide, by decide⟩
theorem elt_feat : ElT 28 120 2 40 (.agg #[.string ⟨#[]⟩, .slice none 0 0]) := ⟨Tryd.underlying28, by kernel_rfl, rfl, by decide, by decide⟩
abbrev mz (sA : Option Addr) (sn sc : Nat) (xs : List Int) (u : Int) : MSt := ⟨sA, sn, sc, xs, ⟨u, none, 0, 0, none, 0, 0, none, 0, 0, none, 0, 0, none, 0, 0, none, 0, 0, none, 0, 0, none, 0, 0⟩⟩
abbrev MSt.ax (s : MSt) (A : Option Addr) (n c : Nat) : MSt := { s with f := { s.f with a5 := A, n5 := n, c5 := c } }
abbrev MSt.rg (s : MSt) (A : Option Addr) (n c : Nat) : MSt := { s with f := { s.f with a6 := A, n6 := n, c6 := c } }
abbrev MSt.fn (s : MSt) (A : Option Addr) (n c : Nat) : MSt := { s with f := { s.f with a7 := A, n7 := n, c7 := c } }
abbrev MSt.cv (s : MSt) (A : Option Addr) (n c : Nat) : MSt := { s with f := { s.f with a8 := A, n8 := n, c8 := c } }
abbrev MSt.ch (s : MSt) (A : Option Addr) (n c : Nat) : MSt := { s with f := { s.f with ca := A, cn := n, cc := c } }
abbrev MSt.ft (s : MSt) (A : Option Addr) (n c : Nat) : MSt := { s with f := { s.f with a4 := A, n4 := n, c4 := c } }
/-- A row of the font in the making: w1: the world in which it was begun. -/
structure FldS (e k gm : Nat) (w1 W : World) (s : MSt) (A : Option Addr) (n c : Nat) : Prop where
 hm : Mk W gm s
 gr : w1.grownBy W (some gm)
 row : ∃ cs, Ow e k W w1.heap.size A n c cs
section
variable {e k gm : Nat} {w1 W W2 W4 : World} {s s' : MSt} {A A' : Option Addr} {n c c' : Nat} {cs : List Value}
theorem FldS.up (h : FldS e k gm w1 W s A n c) (hg : gm < w1.heap.size) (hu : Up gm W W2) : FldS e k gm w1 W2 s A n c := by
 obtain ⟨cs, ho⟩ := h.row
 exact ⟨hu.st s h.hm, h.gr.trans hu.gr, cs, hu.ow ho hg⟩
theorem FldS.new (h : Mk W gm s) : FldS e k gm W W s none 0 0 := ⟨h, World.grownBy.refl _ _, [], Ow.nil _ _ _ _⟩
theorem FldS.push (h : FldS e k gm w1 W s A n c) (hg : gm < w1.heap.size) {i m : Nat} (ho : Ow e k W4 w1.heap.size A' m c' cs) (hb : Below w1.heap.size W W4) (hi : ∀ a l, (s.cells a l).setIfInBounds i (.slice A' m c') = s'.cells a l) (hs : s'.sA = s.sA ∧ s'.sn = s.sn ∧ s'.xs = s.xs ∧ s'.sc = s.sc) :
  Mk W4 gm s ∧ FldS e k gm w1 (W4.setCell ⟨gm, i, none⟩ (.slice A' m c')) s' A' m c' := by
 have hm4 : Mk W4 gm s := h.hm.keep fun b hbb => hb.block b (by omega)
 exact ⟨hm4, hm4.put hi hs, grown_gmc (grown_thr h.gr hb (Nat.le_refl _)) _, _, ho.setOther (p := ⟨gm, i, none⟩) (fun b e1 => by have := (ho.lt b 0 none e1).1; show b ≠ gm; omega) _⟩
end
/-- A region in the making: its tents in block r. -/
structure RgS (gm : Nat) (w1 W : World) (s : MSt) (A : Option Addr) (n c r : Nat) (tA : Option Addr) (tn tc : Nat) : Prop where
 f : FldS 109 1 gm w1 W s A n c
 k : Bk W r 109 #[.slice tA tn tc]
 t : ∃ cs, Ow 111 3 W w1.heap.size tA tn tc cs
 lt : w1.heap.size ≤ r
 ne : ∀ b, A.map (·.block) = some b → b ≠ r
section
variable {gm : Nat} {w1 W W2 W4 : World} {s : MSt} {A A' : Option Addr} {n c c' r : Nat} {tA : Option Addr} {tn tc : Nat} {cs : List Value}
theorem RgS.up (h : RgS gm w1 W s A n c r tA tn tc) (hg : gm < w1.heap.size) (hu : Up gm W W2) : RgS gm w1 W2 s A n c r tA tn tc := by
 obtain ⟨cs, ht⟩ := h.t
 have := h.lt
 exact ⟨h.f.up hg hu, hu.bk h.k (by omega), ⟨cs, hu.ow ht hg⟩, h.lt, h.ne⟩
/-- A tent more. -/
theorem RgS.push (h : RgS gm w1 W s A n c r tA tn tc) (hg : gm < w1.heap.size) (ho : Ow 111 3 W4 w1.heap.size A' (tn + 1) c' cs) (hgr : W.grownBy W4 (tA.map (·.block))) (hb : Below w1.heap.size W W4) :
  Bk W4 r 109 #[.slice tA tn tc] ∧ RgS gm w1 (W4.setCell ⟨r, 0, none⟩ (.slice A' (tn + 1) c')) s A n c r A' (tn + 1) c' := by
 obtain ⟨ts, ht⟩ := h.t
 obtain ⟨rs, hr⟩ := h.f.row
 have k4 := h.k.grown hgr (h.k.ne_own (by decide) ht)
 have hr4 := hr.grown hgr (fun b e1 e2 => ow_ne hr ht (by decide) b e1 e2)
 have hl := h.lt
 have hm4 : Mk W4 gm s := h.f.hm.keep fun b hbb => hb.block b (by omega)
 refine ⟨k4, ⟨hm4.keep fun b hbb => Below.heap_setCell _ ⟨r, 0, none⟩ _ b (by show b ≠ r; omega), ?_, rs, hr4.setOther (p := ⟨r, 0, none⟩) (fun b e1 => h.ne b (by rw [e1]; rfl)) _⟩, k4.set_ 0 _, ⟨_, ho.setOther (p := ⟨r, 0, none⟩) (fun b e1 e2 => k4.ne_own (by decide) ho (by rw [e1]; exact congrArg some e2.symm)) _⟩, hl, h.ne⟩
 have h1 := grown_thr h.f.gr hb (Nat.le_refl _)
 exact ⟨h1.os, h1.tape, h1.output, by rw [World.size_setCell]; exact h1.size, fun k hk hne => (Below.heap_setCell _ ⟨r, 0, none⟩ _ k (by show k ≠ r; omega)).trans (h1.block k hk hne)⟩
end
theorem tent_at (tb q : Nat) (h : q < 5) : ∃ a b c : Int, ∀ W : World, Bk W tb 111 #[.int .i64 0, .int .i64 64, .int .i64 64, .int .i64 0, .int .i64 32, .int .i64 64, .int .i64 (-64), .int .i64 (-64), .int .i64 0, .int .i64 (-1), .int .i64 0, .int .i64 5, .int .i64 10, .int .i64 32, .int .i64 50] → W.cell? ⟨tb, q * 3, none⟩ = some (.int .i64 a) ∧ W.cell? ⟨tb, q * 3 + 1, none⟩ = some (.int .i64 b) ∧ W.cell? ⟨tb, q * 3 + 2, none⟩ = some (.int .i64 c) := by
 obtain rfl | rfl | rfl | rfl | rfl : q = 0 ∨ q = 1 ∨ q = 2 ∨ q = 3 ∨ q = 4 := by omega
 all_goals exact ⟨_, _, _, fun W h => ⟨bx h _ rfl, bx h _ rfl, bx h _ rfl⟩⟩
theorem unit_at (tb q : Nat) (h : q < 4) : ∃ a : Int, ∀ W : World, Bk W tb 3 #[.int .i64 1000, .int .i64 1024, .int .i64 100, .int .i64 2048] → W.cell? ⟨tb, q, none⟩ = some (.int .i64 a) := by
 obtain rfl | rfl | rfl | rfl : q = 0 ∨ q = 1 ∨ q = 2 ∨ q = 3 := by omega
 all_goals exact ⟨_, fun W h => bx h _ rfl⟩
/-- The readings of glyphs and lookups. -/
theorem rdG_of {W : World} {B : Nat} {A : Option Addr} {n c : Nat} {css : List (List Value)} {gs : List Gly} (h : Rg 85 9 EGlb W B (bl A) A n c css gs) : RdG W (fun b => B ≤ b ∧ b < W.heap.size) A n gs :=
 (h.rd em_gly (fun b => B ≤ b ∧ b < W.heap.size) (fun _ h1 h2 _ => ⟨h1, h2⟩) (fun b e => ⟨(h.ow.blk b e).1, (h.ow.blk b e).2.1⟩)).mono (fun _ h => h) (Kept.refl _ _) (fun _ _ h => h.gly)
theorem rdL_of {W : World} {B : Nat} {A : Option Addr} {n c : Nat} {css : List (List Value)} {ls : List Lk} (h : Rg 55 3 ELk W B (bl A) A n c css ls) : RdL W (fun b => B ≤ b ∧ b < W.heap.size) A n ls :=
 h.rd em_lk (fun b => B ≤ b ∧ b < W.heap.size) (fun _ h1 h2 _ => ⟨h1, h2⟩) (fun b e => ⟨(h.ow.blk b e).1, (h.ow.blk b e).2.1⟩)
theorem kept_gm {w W : World} {gm B : Nat} (h : w.grownBy W (some gm)) (hg : gm < B) : Kept (fun b => B ≤ b ∧ b < w.heap.size) w W := fun b hb => h.block b hb.2 (fun e => by have := hb.1; injection e with e; omega)
theorem rdG_gr {w W : World} {gm : Nat} {A : Option Addr} {n : Nat} {gs : List Gly} (h : RdG w (fun b => gm < b ∧ b < w.heap.size) A n gs) (hg : w.grownBy W (some gm)) : RdG W (fun b => gm < b ∧ b < W.heap.size) A n gs :=
 h.mono (fun b hb => ⟨hb.1, Nat.lt_of_lt_of_le hb.2 hg.size⟩) (fun b hb => hg.block b hb.2 (fun e => by have := hb.1; injection e with e; omega))
theorem rdL_gr {w W : World} {gm : Nat} {A : Option Addr} {n : Nat} {gs : List Lk} (h : RdL w (fun b => gm < b ∧ b < w.heap.size) A n gs) (hg : w.grownBy W (some gm)) : RdL W (fun b => gm < b ∧ b < W.heap.size) A n gs :=
 h.mono (fun b hb => ⟨hb.1, Nat.lt_of_lt_of_le hb.2 hg.size⟩) (fun b hb => hg.block b hb.2 (fun e => by have := hb.1; injection e with e; omega))
/-- Another row of the call's own got elements. -/
theorem FldS.other {e k e' k' gm : Nat} {w1 W W4 : World} {s : MSt} {A A' : Option Addr} {n c n' c' : Nat} {cs : List Value} (h : FldS e k gm w1 W s A n c) (hg : gm < w1.heap.size) (hx : Ow e' k' W w1.heap.size A' n' c' cs) (hne : e ≠ e') (hgr : W.grownBy W4 (A'.map (·.block))) (hb : Below w1.heap.size W W4) : FldS e k gm w1 W4 s A n c := by
 obtain ⟨rs, hr⟩ := h.row
 exact ⟨h.hm.keep fun b hbb => hb.block b (by omega), grown_thr h.gr hb (Nat.le_refl _), rs, hr.grown hgr (fun b e1 e2 => ow_ne hr hx hne b e1 e2)⟩
/-- Four cells stored. -/
def store4g (W : World) (g : Nat) (a b c d : Value) : World := (((W.setCell ⟨g, 0, none⟩ a).setCell ⟨g, 1, none⟩ b).setCell ⟨g, 2, none⟩ c).setCell ⟨g, 3, none⟩ d
theorem store4g_bk {W : World} {g t : Nat} {a0 b0 c0 d0 : Value} (h : Bk W g t #[a0, b0, c0, d0]) (a b c d : Value) : Bk (store4g W g a b c d) g t #[a, b, c, d] := by
 have h0 : Bk (W.setCell ⟨g, 0, none⟩ a) g t #[a, b0, c0, d0] := h.set_ 0 a
 have h1 : Bk _ g t #[a, b, c0, d0] := h0.set_ 1 b
 have h2 : Bk _ g t #[a, b, c, d0] := h1.set_ 2 c
 exact h2.set_ 3 d
theorem Up.set4 {gm : Nat} {a w : World} (h : Up gm a w) {g : Nat} (hp : a.heap.size ≤ g) (hg : gm < a.heap.size) (x0 x1 x2 x3 : Value) : Up gm a (store4g w g x0 x1 x2 x3) :=
 (((h.set (p := ⟨g, 0, none⟩) hp hg x0).set (p := ⟨g, 1, none⟩) hp hg x1).set (p := ⟨g, 2, none⟩) hp hg x2).set (p := ⟨g, 3, none⟩) hp hg x3

end Go.Proofs.YtgcmedkaadagmaaDoor
