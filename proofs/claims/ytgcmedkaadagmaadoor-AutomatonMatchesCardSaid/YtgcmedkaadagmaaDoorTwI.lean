/- Words: glyphs out of numbers; two rows in the making. -/
import Derived.Test.YtgcmedkaadagmaaDoorL4
import Derived.Deep.DeepCutAuto
namespace Go.Proofs.YtgcmedkaadagmaaDoor
open Go.RowKit Go.Shelf Go.Maps
structure Two (wB wr : World) (A0 : Option Addr) (m0 d0 : Nat) (y0 : List Int) (A1 : Option Addr) (m1 d1 : Nat) (y1 : List Int) : Prop where
 bl : Below wB.heap.size wB wr
 o0 : Ow 3 1 wr wB.heap.size A0 m0 d0 (ic y0)
 o1 : Ow 3 1 wr wB.heap.size A1 m1 d1 (ic y1)
 ne : ∀ b, A0.map (·.block) = some b → A1.map (·.block) ≠ some b
section
variable {wB wr W W4 : World} {A0 : Option Addr} {m0 d0 : Nat} {y0 : List Int} {A1 : Option Addr} {m1 d1 : Nat} {y1 : List Int}
theorem Two.call (h : Two wB wr A0 m0 d0 y0 A1 m1 d1 y1) (hb : Below wr.heap.size wr W) : Two wB W A0 m0 d0 y0 A1 m1 d1 y1 := ⟨below_call h.bl hb, h.o0.call hb, h.o1.call hb, h.ne⟩
theorem Two.push0 (h : Two wB wr A0 m0 d0 y0 A1 m1 d1 y1) (hb : Below wr.heap.size wr W) {o : Obj} {A' : Option Addr} {d' : Nat} {x : Int} (ho : Ow 3 1 W4 wB.heap.size A' (m0 + 1) d' (ic y0 ++ [.int .i64 x])) (hg : (W.alloc o).grownBy W4 (A0.map (·.block))) (hb4 : Below wB.heap.size (W.alloc o) W4) (hat : A'.map (·.block) = A0.map (·.block) ∨ A'.map (·.block) = some (W.alloc o).heap.size) :
  Two wB W4 A' (m0 + 1) d' (y0 ++ [x]) A1 m1 d1 y1 := by
 have s0 := h.bl.size
 have s1 := hb.size
 refine ⟨((h.bl.trans (hb.mono s0)).trans (((Below.refl W.heap.size W).alloc (Nat.le_refl _) o).mono (by omega))).trans hb4, by rw [ic_app]; exact ho, ((h.o1.call hb).alloc o).grown hg (fun b e e2 => h.ne b e2 (by rw [e]; rfl)), fun b e1 e2 => ?_⟩
 rcases hat with e | e
 ·exact h.ne b (by rw [← e]; exact e1) e2
 ·rw [e1, World.size_alloc] at e
  injection e with e
  have := (h.o1.blk b e2).2.1
  omega
theorem Two.push1 (h : Two wB wr A0 m0 d0 y0 A1 m1 d1 y1) (hb : Below wr.heap.size wr W) {o : Obj} {A' : Option Addr} {d' : Nat} {x : Int} (ho : Ow 3 1 W4 wB.heap.size A' (m1 + 1) d' (ic y1 ++ [.int .i64 x])) (hg : (W.alloc o).grownBy W4 (A1.map (·.block))) (hb4 : Below wB.heap.size (W.alloc o) W4) (hat : A'.map (·.block) = A1.map (·.block) ∨ A'.map (·.block) = some (W.alloc o).heap.size) :
  Two wB W4 A0 m0 d0 y0 A' (m1 + 1) d' (y1 ++ [x]) := by
 have s0 := h.bl.size
 have s1 := hb.size
 refine ⟨((h.bl.trans (hb.mono s0)).trans (((Below.refl W.heap.size W).alloc (Nat.le_refl _) o).mono (by omega))).trans hb4, ((h.o0.call hb).alloc o).grown hg (fun b e e2 => h.ne b (by rw [e]; rfl) e2), by rw [ic_app]; exact ho, fun b e1 e2 => ?_⟩
 rcases hat with e | e
 ·exact h.ne b e1 (by rw [← e]; exact e2)
 ·rw [e2, World.size_alloc] at e
  injection e with e
  have := (h.o0.blk b e1).2.1
  omega
end
end Go.Proofs.YtgcmedkaadagmaaDoor
