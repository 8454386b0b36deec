/- Words: a rule in the making, in memory. -/
import Derived.Test.YtkmdakampkfioaaGreatDoorY4
namespace Go.Proofs.YtkmdakampkfioaaGreatDoor
open Go.RowKit Go.Shelf
theorem elt_call : ElT 89 183 2 16 (.agg #[.int .i64 0, .int .i64 0]) := ⟨Tryz.underlying89, by kernel_rfl, rfl, by decide, by decide⟩
structure RuV where
 bA : Option Addr
 bn : Nat
 bc : Nat
 iA : Option Addr
 im : Nat
 ic' : Nat
 aA : Option Addr
 an : Nat
 ac : Nat
 oA : Option Addr
 on' : Nat
 oc : Nat
 lA : Option Addr
 ln : Nat
 lc : Nat
abbrev RuV.cells (v : RuV) (x : Int) : Array Value := #[.slice v.bA v.bn v.bc, .slice v.iA v.im v.ic', .slice v.aA v.an v.ac, .slice v.oA v.on' v.oc, .slice v.lA v.ln v.lc, .int .i64 x]
def RuV.X (v : RuV) (g r : Nat) : List Nat := bl v.iA ++ (bl v.oA ++ (bl v.lA ++ [g, r]))
theorem RuV.mem {v : RuV} {g r b : Nat} : b ∈ v.X g r ↔ v.iA.map (·.block) = some b ∨ v.oA.map (·.block) = some b ∨ v.lA.map (·.block) = some b ∨ b = g ∨ b = r := by
 unfold RuV.X;simp only [List.mem_append, bl_in, List.mem_cons, List.not_mem_nil, or_false]
structure RuS (gm : Nat) (w W : World) (g r : Nat) (v : RuV) (u : Rul) : Prop where
 k : Bk W g 91 (v.cells u.x)
 kr : Bk W r 91 #[.slice none 0 0, .slice none 0 0, .slice none 0 0, .slice none 0 0, .slice none 0 0, .int .i64 0]
 bk : RdV W (Fz w.heap.size W (v.X g r)) v.bA v.bn u.back ∧ Hd v.bn v.bc
 ah : RdV W (Fz w.heap.size W (v.X g r)) v.aA v.an u.ahead ∧ Hd v.an v.ac
 inn : ∃ css, Rg 22 1 ERow W w.heap.size (v.X g r) v.iA v.im v.ic' css u.inn
 out : Ow 3 1 W w.heap.size v.oA v.on' v.oc (ic u.out)
 cal : ∃ css, Ow 183 2 W w.heap.size v.lA v.ln v.lc css.flatten ∧ RowOf 2 ECall css u.calls
 up : Up gm w W
 lt : w.heap.size ≤ g ∧ w.heap.size ≤ r ∧ g ≠ r
theorem fz_rdV {W W2 : World} {B : Nat} {X X' : List Nat} {A : Option Addr} {n : Nat} {xss : List (List Int)} (h : RdV W (Fz B W X) A n xss) (hs : W.heap.size ≤ W2.heap.size) (hk : ∀ b, Fz B W X b → W2.heap[b]? = W.heap[b]?) (hX : ∀ b, B ≤ b → b < W.heap.size → b ∈ X' → b ∈ X) : RdV W2 (Fz B W2 X') A n xss :=
 h.mono (fun b hb => ⟨hb.1, Nat.lt_of_lt_of_le hb.2.1 hs, fun h1 => hb.2.2 (hX b hb.1 hb.2.1 h1)⟩) hk
theorem rg_fin {W2 : World} {B1 B : Nat} {X : List Nat} {A : Option Addr} {n c : Nat} {css : List (List Value)} {xss : List (List Int)} (h : Rg 22 1 ERow W2 B1 (bl A ++ []) A n c css xss) (hB : B ≤ B1) (hX : ∀ b ∈ X, b < B1) : RdV W2 (Fz B W2 X) A n xss ∧ Hd n c :=
 ⟨h.rd em_rows (Fz B W2 X) (fun b h1 h2 _ => ⟨by omega, h2, fun h3 => by have := hX b h3; omega⟩) (fun b e1 => by
  obtain ⟨h1, h2, _⟩ := h.ow.blk b e1;exact ⟨by omega, h2, fun h3 => by have := hX b h3; omega⟩), h.ow.cap⟩
section
variable {gm : Nat} {w W W2 W4 : World} {g r : Nat} {v : RuV} {u : Rul} {A' : Option Addr} {c' : Nat}
theorem RuS.gX (v : RuV) (g r : Nat) : g ∈ v.X g r := RuV.mem.2 (.inr (.inr (.inr (.inl rfl))))
theorem RuS.xlt (h : RuS gm w W g r v u) : ∀ b ∈ v.X g r, b < W.heap.size := fun b hb => by
 obtain ⟨css, hi⟩ := h.inn;obtain ⟨lcs, hl, _⟩ := h.cal;rcases RuV.mem.1 hb with e | e | e | e | e
 ·exact (hi.ow.blk b e).2.1
 ·exact (h.out.blk b e).2.1
 ·exact (hl.blk b e).2.1
 ·rw [e]; exact h.k.lt
 ·rw [e]; exact h.kr.lt
theorem RuS.upd (h : RuS gm w W g r v u) (hg : gm < w.heap.size) (hu : Up gm W W2) : RuS gm w W2 g r v u := by
 obtain ⟨css, hi⟩ := h.inn;obtain ⟨lcs, hl, hlr⟩ := h.cal;have hlt := h.lt;have hk : ∀ b, Fz w.heap.size W (v.X g r) b → W2.heap[b]? = W.heap[b]? := fun b hb => hu.block hb.2.1 (by have := hb.1; omega);exact ⟨hu.bk h.k (by omega), hu.bk h.kr (by omega), ⟨fz_rdV h.bk.1 hu.size hk (fun _ _ _ h => h), h.bk.2⟩, ⟨fz_rdV h.ah.1 hu.size hk (fun _ _ _ h => h), h.ah.2⟩, ⟨css, hi.up em_rows hu hg⟩, hu.ow h.out hg, ⟨lcs, hu.ow hl hg, hlr⟩, h.up.trans hu, h.lt⟩
theorem fz_step {X : List Nat} {B : Nat} {A : Option Addr} {i : Nat} {y : Value} (hg : W.grownBy W4 (A.map (·.block))) (hA : ∀ b, A.map (·.block) = some b → b ∈ X) (hgX : g ∈ X) : (∀ b, Fz B W X b → (W4.setCell ⟨g, i, none⟩ y).heap[b]? = W.heap[b]?) ∧ W.heap.size ≤ (W4.setCell ⟨g, i, none⟩ y).heap.size :=
 ⟨fun b hb => by
  rw [Below.heap_setCell _ ⟨g, i, none⟩ _ b (fun e => hb.2.2 (by rw [e]; exact hgX))];exact hg.block b hb.2.1 (fun e => hb.2.2 (hA b e.symm)), by rw [World.size_setCell]; exact hg.size⟩
theorem Ow.setG {e k t base n c i : Nat} {A : Option Addr} {cs : List Value} {cells : Array Value} (ho : Ow e k W base A n c cs) (hk : Bk W g t cells) (ht : t ≠ e) (y : Value) : Ow e k (W.setCell ⟨g, i, none⟩ y) base A n c cs :=
 ho.setOther (p := ⟨g, i, none⟩) (fun b e1 e2 => hk.ne_own ht ho (by rw [e1]; exact congrArg some e2.symm)) y
theorem RuS.pushIn (h : RuS gm w W g r v u) (hg : gm < w.heap.size) {css : List (List Value)} (hi : Rg 22 1 ERow W w.heap.size (v.X g r) v.iA v.im v.ic' css u.inn) {m : Nat} {ds : List (List Value)} {ys : List (List Int)} (hr : RowOf 1 (ERow W (Fz w.heap.size W (v.X g r))) ds ys)
  (ho : Ow 22 1 W4 w.heap.size A' (v.im + m) c' (css.flatten ++ ds.flatten)) (hgr : W.grownBy W4 (v.iA.map (·.block))) (hb : Below w.heap.size W W4) (hat : A'.map (·.block) = v.iA.map (·.block) ∨ A'.map (·.block) = some W.heap.size) :
  Bk W4 g 91 (v.cells u.x) ∧ RuS gm w (W4.setCell ⟨g, 1, none⟩ (.slice A' (v.im + m) c')) g r { v with iA := A', im := v.im + m, ic' := c' } { u with inn := u.inn ++ ys } := by
 obtain ⟨lcs, hl, hlr⟩ := h.cal;have hlt := h.lt;have k4 := h.k.grown hgr (h.k.ne_own (by decide) hi.ow);have kr4 := h.kr.grown hgr (h.kr.ne_own (by decide) hi.ow);have ho4 := h.out.grown hgr (fun b e1 e2 => ow_ne h.out hi.ow (by decide) b e1 e2);have hl4 := hl.grown hgr (fun b e1 e2 => ow_ne hl hi.ow (by decide) b e1 e2);have hX : ∀ b, w.heap.size ≤ b → b < W.heap.size → b ∈ ({ v with iA := A', im := v.im + m, ic' := c' } : RuV).X g r → b ∈ v.X g r := fun b _ h2 h3 => by
  rw [RuV.mem] at h3 ⊢;rcases h3 with h3 | h3
  ·rcases hat with e1 | e1
   ·exact .inl (e1.symm.trans h3)
   ·dsimp only at h3; rw [h3] at e1; injection e1 with e1; omega
  ·exact .inr h3
 obtain ⟨hk, hs⟩ := fz_step (g := g) (i := 1) (y := .slice A' (v.im + m) c') (B := w.heap.size) hgr (fun b e => RuV.mem.2 (.inl e)) (RuS.gX v g r);have hp := hi.push em_rows hr ho hgr hX (fun b e => RuV.mem.2 (.inl e));refine ⟨k4, k4.set_ 1 _, kr4.far (by show r ≠ g; omega) _, ⟨fz_rdV h.bk.1 hs hk hX, h.bk.2⟩, ⟨fz_rdV h.ah.1 hs hk hX, h.ah.2⟩, ⟨_, hp.set em_rows (p := ⟨g, 1, none⟩) (.inl (RuS.gX _ g r)) (fun e => k4.ne_own (by decide) ho e.symm) _⟩, ho4.setG k4 (by decide) _, ⟨lcs, hl4.setG k4 (by decide) _, hlr⟩, (h.up.thru hb (Nat.le_refl _) hg).set hlt.1 hg _, hlt⟩
theorem RuS.pushOut (h : RuS gm w W g r v u) (hg : gm < w.heap.size) {y : Int} (ho : Ow 3 1 W4 w.heap.size A' (v.on' + 1) c' (ic u.out ++ [.int .i64 y])) (hgr : W.grownBy W4 (v.oA.map (·.block))) (hb : Below w.heap.size W W4) (hat : A'.map (·.block) = v.oA.map (·.block) ∨ A'.map (·.block) = some W.heap.size) :
  Bk W4 g 91 (v.cells u.x) ∧ RuS gm w (W4.setCell ⟨g, 3, none⟩ (.slice A' (v.on' + 1) c')) g r { v with oA := A', on' := v.on' + 1, oc := c' } { u with out := u.out ++ [y] } := by
 obtain ⟨css, hi⟩ := h.inn;obtain ⟨lcs, hl, hlr⟩ := h.cal;have hlt := h.lt;have k4 := h.k.grown hgr (h.k.ne_own (by decide) h.out);have kr4 := h.kr.grown hgr (h.kr.ne_own (by decide) h.out);have hl4 := hl.grown hgr (fun b e1 e2 => ow_ne hl h.out (by decide) b e1 e2);have hX : ∀ b, w.heap.size ≤ b → b < W.heap.size → b ∈ ({ v with oA := A', on' := v.on' + 1, oc := c' } : RuV).X g r → b ∈ v.X g r := fun b _ h2 h3 => by
  rw [RuV.mem] at h3 ⊢;rcases h3 with h3 | h3 | h3
  ·exact .inl h3
  ·rcases hat with e1 | e1
   ·exact .inr (.inl (e1.symm.trans h3))
   ·dsimp only at h3; rw [h3] at e1; injection e1 with e1; omega
  ·exact .inr (.inr h3)
 obtain ⟨hk, hs⟩ := fz_step (g := g) (i := 3) (y := .slice A' (v.on' + 1) c') (B := w.heap.size) hgr (fun b e => RuV.mem.2 (.inr (.inl e))) (RuS.gX v g r);have hi4 : Rg 22 1 ERow W4 w.heap.size (v.X g r) v.iA v.im v.ic' css u.inn := hi.keep em_rows hgr.size (fun b _ h2 h3 => hgr.block b h2 (fun e => h3 (RuV.mem.2 (.inr (.inl e.symm))))) (fun b e => hgr.block b (hi.ow.blk b e).2.1 (fun e2 => ow_ne hi.ow h.out (by decide) b ((hi.ow.blk b e).2.2.1) e2.symm));have hi5 := hi4.set em_rows (p := ⟨g, 3, none⟩) (.inl (RuS.gX v g r)) (fun e => k4.ne_own (by decide) hi4.ow e.symm) (.slice A' (v.on' + 1) c');have hsz : ∀ b, b < (W4.setCell ⟨g, 3, none⟩ (.slice A' (v.on' + 1) c')).heap.size → b < W4.heap.size := fun b hb => by rw [World.size_setCell] at hb; exact hb
 refine ⟨k4, k4.set_ 3 _, kr4.far (by show r ≠ g; omega) _, ⟨fz_rdV h.bk.1 hs hk hX, h.bk.2⟩, ⟨fz_rdV h.ah.1 hs hk hX, h.ah.2⟩, ?_, ?_, ⟨lcs, hl4.setG k4 (by decide) _, hlr⟩, (h.up.thru hb (Nat.le_refl _) hg).set hlt.1 hg _, hlt⟩
 ·have hr2 : RowOf 1 (ERow (W4.setCell ⟨g, 3, none⟩ (.slice A' (v.on' + 1) c')) (Fz w.heap.size (W4.setCell ⟨g, 3, none⟩ (.slice A' (v.on' + 1) c')) (({ v with oA := A', on' := v.on' + 1, oc := c' } : RuV).X g r))) css u.inn := hi.rw.mono fun cs x hx => em_rows.mono hx (fun b hb => ⟨hb.1, Nat.lt_of_lt_of_le hb.2.1 hs, fun h1 => hb.2.2 (hX b hb.1 hb.2.1 h1)⟩) hk;exact ⟨css, hi5.ow, hr2, fun b e => RuV.mem.2 (.inl e)⟩
 ·rw [ic_app];exact ho.setG k4 (by decide) _
theorem RuS.pushCall (h : RuS gm w W g r v u) (hg : gm < w.heap.size) {css : List (List Value)} (hl : Ow 183 2 W w.heap.size v.lA v.ln v.lc css.flatten) (hlr : RowOf 2 ECall css u.calls) {cs : List Value} {y : Int × Int} (hy : ECall cs y) (ho : Ow 183 2 W4 w.heap.size A' (v.ln + 1) c' (css.flatten ++ cs)) (hgr : W.grownBy W4 (v.lA.map (·.block))) (hb : Below w.heap.size W W4) (hat : A'.map (·.block) = v.lA.map (·.block) ∨ A'.map (·.block) = some W.heap.size) :
  Bk W4 g 91 (v.cells u.x) ∧ RuS gm w (W4.setCell ⟨g, 4, none⟩ (.slice A' (v.ln + 1) c')) g r { v with lA := A', ln := v.ln + 1, lc := c' } { u with calls := u.calls ++ [y] } := by
 obtain ⟨is, hi⟩ := h.inn;have hlt := h.lt;have k4 := h.k.grown hgr (h.k.ne_own (by decide) hl);have kr4 := h.kr.grown hgr (h.kr.ne_own (by decide) hl);have ho4 := h.out.grown hgr (fun b e1 e2 => ow_ne h.out hl (by decide) b e1 e2);have hX : ∀ b, w.heap.size ≤ b → b < W.heap.size → b ∈ ({ v with lA := A', ln := v.ln + 1, lc := c' } : RuV).X g r → b ∈ v.X g r := fun b _ h2 h3 => by
  rw [RuV.mem] at h3 ⊢;rcases h3 with h3 | h3 | h3 | h3
  ·exact .inl h3
  ·exact .inr (.inl h3)
  ·rcases hat with e1 | e1
   ·exact .inr (.inr (.inl (e1.symm.trans h3)))
   ·dsimp only at h3; rw [h3] at e1; injection e1 with e1; omega
  ·exact .inr (.inr (.inr h3))
 obtain ⟨hk, hs⟩ := fz_step (g := g) (i := 4) (y := .slice A' (v.ln + 1) c') (B := w.heap.size) hgr (fun b e => RuV.mem.2 (.inr (.inr (.inl e)))) (RuS.gX v g r);have hi4 : Rg 22 1 ERow W4 w.heap.size (v.X g r) v.iA v.im v.ic' is u.inn := hi.keep em_rows hgr.size (fun b _ h2 h3 => hgr.block b h2 (fun e => h3 (RuV.mem.2 (.inr (.inr (.inl e.symm)))))) (fun b e => hgr.block b (hi.ow.blk b e).2.1 (fun e2 => ow_ne hi.ow hl (by decide) b ((hi.ow.blk b e).2.2.1) e2.symm));have hi5 := hi4.set em_rows (p := ⟨g, 4, none⟩) (.inl (RuS.gX v g r)) (fun e => k4.ne_own (by decide) hi4.ow e.symm) (.slice A' (v.ln + 1) c');refine ⟨k4, k4.set_ 4 _, kr4.far (by show r ≠ g; omega) _, ⟨fz_rdV h.bk.1 hs hk hX, h.bk.2⟩, ⟨fz_rdV h.ah.1 hs hk hX, h.ah.2⟩, ?_, ho4.setG k4 (by decide) _, ⟨css ++ [cs], ?_, hlr.app (RowOf.one hy (by rw [hy.1]; rfl))⟩, (h.up.thru hb (Nat.le_refl _) hg).set hlt.1 hg _, hlt⟩
 ·have hr2 : RowOf 1 (ERow (W4.setCell ⟨g, 4, none⟩ (.slice A' (v.ln + 1) c')) (Fz w.heap.size (W4.setCell ⟨g, 4, none⟩ (.slice A' (v.ln + 1) c')) (({ v with lA := A', ln := v.ln + 1, lc := c' } : RuV).X g r))) is u.inn := hi.rw.mono fun cs x hx => em_rows.mono hx (fun b hb => ⟨hb.1, Nat.lt_of_lt_of_le hb.2.1 hs, fun h1 => hb.2.2 (hX b hb.1 hb.2.1 h1)⟩) hk;exact ⟨is, hi5.ow, hr2, fun b e => RuV.mem.2 (.inl e)⟩
 ·rw [List.flatten_append];simpa using ho.setG k4 (by decide) (.slice A' (v.ln + 1) c')
theorem RuS.cell (h : RuS gm w W g r v u) (hg : gm < w.heap.size) (i : Nat) (y : Value) : Bk (W.setCell ⟨g, i, none⟩ y) r 91 #[.slice none 0 0, .slice none 0 0, .slice none 0 0, .slice none 0 0, .slice none 0 0, .int .i64 0] ∧ (∀ A n xss, RdV W (Fz w.heap.size W (v.X g r)) A n xss → RdV (W.setCell ⟨g, i, none⟩ y) (Fz w.heap.size (W.setCell ⟨g, i, none⟩ y) (v.X g r)) A n xss) ∧
  (∃ css, Rg 22 1 ERow (W.setCell ⟨g, i, none⟩ y) w.heap.size (v.X g r) v.iA v.im v.ic' css u.inn) ∧ Ow 3 1 (W.setCell ⟨g, i, none⟩ y) w.heap.size v.oA v.on' v.oc (ic u.out) ∧ (∃ css, Ow 183 2 (W.setCell ⟨g, i, none⟩ y) w.heap.size v.lA v.ln v.lc css.flatten ∧ RowOf 2 ECall css u.calls) ∧ Up gm w (W.setCell ⟨g, i, none⟩ y) := by
 obtain ⟨css, hi⟩ := h.inn;obtain ⟨lcs, hl, hlr⟩ := h.cal;have hlt := h.lt;exact ⟨h.kr.far (by show r ≠ g; omega) _, fun A n xss hx => fz_rdV hx (by rw [World.size_setCell]; exact Nat.le_refl _) (fun b hb => Below.heap_setCell _ ⟨g, i, none⟩ _ b (fun e => hb.2.2 (by rw [e]; exact RuS.gX v g r))) (fun _ _ _ h => h), ⟨css, hi.set em_rows (p := ⟨g, i, none⟩) (.inl (RuS.gX v g r)) (fun e => h.k.ne_own (by decide) hi.ow e.symm) _⟩, h.out.setG h.k (by decide) _, ⟨lcs, hl.setG h.k (by decide) _, hlr⟩, h.up.set hlt.1 hg _⟩
theorem RuS.setBack (h : RuS gm w W g r v u) (hg : gm < w.heap.size) {A : Option Addr} {n c : Nat} {xss : List (List Int)} (hx : RdV W (Fz w.heap.size W (v.X g r)) A n xss ∧ Hd n c) : RuS gm w (W.setCell ⟨g, 0, none⟩ (.slice A n c)) g r { v with bA := A, bn := n, bc := c } { u with back := xss } := by
 obtain ⟨h1, h2, h3, h4, h5, h6⟩ := h.cell hg 0 (.slice A n c);exact ⟨h.k.set_ 0 _, h1, ⟨h2 _ _ _ hx.1, hx.2⟩, ⟨h2 _ _ _ h.ah.1, h.ah.2⟩, h3, h4, h5, h6, h.lt⟩
theorem RuS.setAhead (h : RuS gm w W g r v u) (hg : gm < w.heap.size) {A : Option Addr} {n c : Nat} {xss : List (List Int)} (hx : RdV W (Fz w.heap.size W (v.X g r)) A n xss ∧ Hd n c) : RuS gm w (W.setCell ⟨g, 2, none⟩ (.slice A n c)) g r { v with aA := A, an := n, ac := c } { u with ahead := xss } := by
 obtain ⟨h1, h2, h3, h4, h5, h6⟩ := h.cell hg 2 (.slice A n c);exact ⟨h.k.set_ 2 _, h1, ⟨h2 _ _ _ h.bk.1, h.bk.2⟩, ⟨h2 _ _ _ hx.1, hx.2⟩, h3, h4, h5, h6, h.lt⟩
theorem RuS.setX (h : RuS gm w W g r v u) (hg : gm < w.heap.size) (x : Int) : RuS gm w (W.setCell ⟨g, 5, none⟩ (.int .i64 x)) g r v { u with x := x } := by
 obtain ⟨h1, h2, h3, h4, h5, h6⟩ := h.cell hg 5 (.int .i64 x);exact ⟨h.k.set_ 5 _, h1, ⟨h2 _ _ _ h.bk.1, h.bk.2⟩, ⟨h2 _ _ _ h.ah.1, h.ah.2⟩, h3, h4, h5, h6, h.lt⟩
theorem RuS.litOut (h : RuS gm w W g r v u) (hg : gm < w.heap.size) (y : Int) : Bk (W.alloc (.cells #[.int .i64 y] 3)) g 91 (v.cells u.x) ∧ RuS gm w ((W.alloc (.cells #[.int .i64 y] 3)).setCell ⟨g, 3, none⟩ (.slice (some ⟨W.heap.size, 0, none⟩) 1 1)) g r { v with oA := some ⟨W.heap.size, 0, none⟩, on' := 1, oc := 1 } { u with out := [y] } := by
 have h0 := h.up.size;have hu : Up gm W (W.alloc (.cells #[.int .i64 y] 3)) := (Up.refl gm W).alloc (by omega) _;have h2 := h.upd hg hu;obtain ⟨p1, p2, p3, p4, p5, p6⟩ := h2.cell hg 3 (.slice (some ⟨W.heap.size, 0, none⟩) 1 1);have ho := Ow.lit 3 1 1 W w.heap.size [.int .i64 y] rfl h0 (by omega);have hX : ∀ b, w.heap.size ≤ b → b < W.heap.size → b ∈ ({ v with oA := some ⟨W.heap.size, 0, none⟩, on' := 1, oc := 1 } : RuV).X g r → b ∈ v.X g r := fun b _ hb h3 => by
  rw [RuV.mem] at h3 ⊢;rcases h3 with h3 | h3 | h3
  ·exact .inl h3
  ·have : W.heap.size = b := by simpa using h3
   omega
  ·exact .inr (.inr h3)
 have hs : W.heap.size ≤ ((W.alloc (.cells #[.int .i64 y] 3)).setCell ⟨g, 3, none⟩ (.slice (some ⟨W.heap.size, 0, none⟩) 1 1)).heap.size := by rw [World.size_setCell]; exact hu.size
 have hk : ∀ b, Fz w.heap.size W (v.X g r) b → ((W.alloc (.cells #[.int .i64 y] 3)).setCell ⟨g, 3, none⟩ (.slice (some ⟨W.heap.size, 0, none⟩) 1 1)).heap[b]? = W.heap[b]? := fun b hb => by
  rw [Below.heap_setCell _ ⟨g, 3, none⟩ _ b (fun e => hb.2.2 (by rw [e]; exact RuS.gX v g r)), Below.heap_alloc W _ b hb.2.1]
 obtain ⟨css, hi⟩ := h.inn;obtain ⟨css2, hi2⟩ := h2.inn;refine ⟨h2.k, h2.k.set_ 3 _, p1, ⟨fz_rdV h.bk.1 hs hk hX, h.bk.2⟩, ⟨fz_rdV h.ah.1 hs hk hX, h.ah.2⟩, ?_, ?_, p5, p6, h.lt⟩
 ·have hr2 : RowOf 1 (ERow ((W.alloc (.cells #[.int .i64 y] 3)).setCell ⟨g, 3, none⟩ (.slice (some ⟨W.heap.size, 0, none⟩) 1 1)) (Fz w.heap.size ((W.alloc (.cells #[.int .i64 y] 3)).setCell ⟨g, 3, none⟩ (.slice (some ⟨W.heap.size, 0, none⟩) 1 1)) (({ v with oA := some ⟨W.heap.size, 0, none⟩, on' := 1, oc := 1 } : RuV).X g r))) css u.inn := hi.rw.mono fun cs x hx => em_rows.mono hx (fun b hb => ⟨hb.1, Nat.lt_of_lt_of_le hb.2.1 hs, fun h1 => hb.2.2 (hX b hb.1 hb.2.1 h1)⟩) hk;exact ⟨css, (hi.ow.alloc _).setG h2.k (by decide) _, hr2, fun b e => RuV.mem.2 (.inl e)⟩
 ·exact Ow.setG (g := g) (i := 3) ho h2.k (by decide) (.slice (some ⟨W.heap.size, 0, none⟩) 1 1)
theorem RuS.first (h : RuS gm w W g r v u) {s : List Int} {t : List (List Int)} (hs : u.inn = s :: t) : ∃ gi A c, v.iA = some ⟨gi, 0, none⟩ ∧ W.cell? ⟨gi, 0, none⟩ = some (.slice A s.length c) ∧ 0 < v.im := by
 obtain ⟨css, hi⟩ := h.inn;have hl := hi.len em_rows;rw [hs, List.length_cons] at hl;obtain ⟨gi, e1, _, _⟩ := hi.ow.form (by omega);obtain ⟨cs, h1, ⟨A, n, c, rfl, h3, _⟩, _⟩ := hi.rw.at (i := 0) (x := s) (by rw [hs]; rfl);have ho := hi.ow;rw [e1] at ho;have h4 := ho.cell (flat_at hi.rw.2.1 h1 (j := 0) rfl);rw [← h3.len] at h4;exact ⟨gi, A, c, e1, by simpa using h4, by omega⟩
theorem RuS.done (h : RuS gm w W g r v u) (W5 : World) (hk : ∀ b, b ≠ r → W5.heap[b]? = W.heap[b]?) (hs : W5.heap.size = W.heap.size) : ERul W5 (fun b => w.heap.size ≤ b ∧ b < W5.heap.size) (v.cells u.x).toList u := by
 obtain ⟨css, hi⟩ := h.inn;obtain ⟨lcs, hl, hlr⟩ := h.cal;have hS : ∀ b, Fz w.heap.size W (v.X g r) b → w.heap.size ≤ b ∧ b < W5.heap.size := fun b hb => ⟨hb.1, by rw [hs]; exact hb.2.1⟩;have hK : Kept (Fz w.heap.size W (v.X g r)) W W5 := fun b hb => hk b (fun e => hb.2.2 (RuV.mem.2 (by rw [e]; exact .inr (.inr (.inr (.inr rfl))))));have hi5 : Rg 22 1 ERow W5 w.heap.size (v.X g r) v.iA v.im v.ic' css u.inn := hi.keep em_rows (by omega) (fun b h1 h2 h3 => hk b (fun e => h3 (RuV.mem.2 (by rw [e]; exact .inr (.inr (.inr (.inr rfl))))))) (fun b e => hk b (fun e2 => h.kr.ne_own (by decide) hi.ow (by rw [e, ← e2])));have ho5 : Ow 3 1 W5 w.heap.size v.oA v.on' v.oc (ic u.out) := h.out.keep fun b e => hk b (fun e2 => h.kr.ne_own (by decide) h.out (by rw [e, ← e2]; rfl));have hl5 : Ow 183 2 W5 w.heap.size v.lA v.ln v.lc lcs.flatten := hl.keep fun b e => hk b (fun e2 => h.kr.ne_own (by decide) hl (by rw [e, ← e2]; rfl));have hc : RdC W5 (fun b => w.heap.size ≤ b ∧ b < W5.heap.size) v.lA v.ln u.calls := by
  have h1 := hl5.row hlr (by omega);refine ⟨h1.1, fun hn => ?_⟩;obtain ⟨b, o, e1, _, hcc⟩ := h1.2 hn;have := hl5.blk b (by rw [e1]; rfl);exact ⟨b, o, e1, ⟨this.1, this.2.1⟩, hcc⟩
 exact ⟨_, _, _, _, _, _, _, _, _, _, _, _, _, _, _, rfl, h.bk.1.mono hS hK, hi5.rd em_rows _ (fun b h1 h2 _ => ⟨h1, h2⟩) (fun b e => ⟨(hi5.ow.blk b e).1, (hi5.ow.blk b e).2.1⟩), h.ah.1.mono hS hK, rdb ho5 (fun b e => ⟨(ho5.blk b e).1, (ho5.blk b e).2.1⟩), hc, h.bk.2, hi.ow.cap, h.ah.2, h.out.cap, hl.cap⟩
end
end Go.Proofs.YtkmdakampkfioaaGreatDoor
